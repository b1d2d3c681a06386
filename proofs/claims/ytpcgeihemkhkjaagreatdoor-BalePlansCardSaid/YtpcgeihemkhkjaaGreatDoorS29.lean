/- Plans: lengths, places that fit, walked. Conditions: the pieces have no error. -/
import Derived.Test.YtpcgeihemkhkjaaGreatDoorS27
import Derived.Test.YtpcgeihemkhkjaaGreatDoorS28
namespace Go.Proofs.YtpcgeihemkhkjaaGreatDoor
open Go.RowKit Go.ChangeMaps
set_option maxHeartbeats 4000000
set_option maxRecDepth 100000
attribute [local go_sem] Oper.semAt_some
theorem SlW.look {w w' : World} {A : Option Addr} {c : Nat} {l : List Pan} (ha : SlW w (.slice A l.length c) l) {k : Nat} (hk : k < l.length) (u : Bool) (f : Int) (hb : Below w.heap.size w w') :
  ∃ (bA oA : Nat) (p0 p5 q0 q5 r0 r5 : Option Addr) (p1 p2 p6 p7 q1 q2 q6 q7 r2 r7 : Nat) (p3 p4 q3 q4 : Int), A = some ⟨bA, oA, none⟩ ∧ bA < w'.heap.size ∧
  (w'.cell? ⟨bA, oA + k * 8, none⟩ = some (.slice p0 p1 p2) ∧ w'.cell? ⟨bA, oA + k * 8 + 1, none⟩ = some (.int .i64 p3) ∧ w'.cell? ⟨bA, oA + k * 8 + 2, none⟩ = some (.int .i64 p4) ∧ w'.cell? ⟨bA, oA + k * 8 + 3, none⟩ = some (.slice p5 p6 p7) ∧
   w'.cell? ⟨bA, oA + k * 8 + 4, none⟩ = some (.slice q0 q1 q2) ∧ w'.cell? ⟨bA, oA + k * 8 + 5, none⟩ = some (.int .i64 q3) ∧ w'.cell? ⟨bA, oA + k * 8 + 6, none⟩ = some (.int .i64 q4) ∧ w'.cell? ⟨bA, oA + k * 8 + 7, none⟩ = some (.slice q5 q6 q7)) ∧
  (∀ W, Calls Tryz.prog 74 #[.agg #[.slice p0 p1 p2, .int .i64 p3, .int .i64 p4, .slice p5 p6 p7, .slice q0 q1 q2, .int .i64 q3, .int .i64 q4, .slice q5 q6 q7], .agg #[.int .i64 (k : Int), .bool u, .int .i64 f]] W
   (RV W (.agg #[.slice r0 (Z6y (pcP l ((k : Int), u, f))).length r2, .int .i64 (Zin (pcP l ((k : Int), u, f))).1, .int .i64 (Zin (pcP l ((k : Int), u, f))).2, .slice r5 (netL (pcP l ((k : Int), u, f))).length r7]))) ∧
  Rd trc 4 w r0 (Z6y (pcP l ((k : Int), u, f))) ∧ SlB w (.slice r5 (netL (pcP l ((k : Int), u, f))).length r7) (netL (pcP l ((k : Int), u, f))) := by
 obtain ⟨bA, oA, cA, y, hv, hbA, hy, e0, e1, e2, e3, e4, e5, e6, e7⟩ := ha.get hk
 obtain ⟨rfl, rfl⟩ : A = some ⟨bA, oA, none⟩ ∧ c = cA := by simpa using hv
 have hyw := hy.way u
 rw [← Zld hk u f] at hyw
 have hat2 := fun W => Zla y (k : Int) u f W
 obtain ⟨⟨⟨r0, r1, r2⟩, r3, r4, ⟨r5, r6, r7⟩⟩, hzz⟩ : ∃ z, (if u then y.2 else y.1) = z := ⟨_, rfl⟩
 rw [hzz] at hyw hat2
 obtain ⟨hst, hlo, hhi, hnt⟩ := hyw
 simp only at hlo hhi
 have hz1 := Sl.size_ hst
 have hz2 := Sl.size_ hnt
 simp only at hz1 hz2
 obtain ⟨Az, cz, hez, _, _, hrr⟩ := hst
 simp only [slV, Value.slice.injEq] at hez
 obtain ⟨rfl, -, rfl⟩ := hez
 subst hz1 hz2 hlo hhi
 unfold wyV at hat2
 simp only [slV] at hat2
 obtain ⟨⟨⟨p0, p1, p2⟩, p3, p4, ⟨p5, p6, p7⟩⟩, ⟨⟨q0, q1, q2⟩, q3, q4, ⟨q5, q6, q7⟩⟩⟩ := y
 simp only [slV] at e0 e1 e2 e3 e4 e5 e6 e7 hat2
 refine ⟨bA, oA, p0, p5, q0, q5, r0, r5, p1, p2, p6, p7, q1, q2, q6, q7, r2, r7, p3, p4, q3, q4, rfl, Nat.lt_of_lt_of_le hbA hb.size, ⟨?_, ?_, ?_, ?_, ?_, ?_, ?_, ?_⟩, hat2, hrr, hnt⟩
 ·exact (hb.cell (p := ⟨bA, oA + k * 8, none⟩) hbA).trans e0
 ·exact (hb.cell (p := ⟨bA, oA + k * 8 + 1, none⟩) hbA).trans e1
 ·exact (hb.cell (p := ⟨bA, oA + k * 8 + 2, none⟩) hbA).trans e2
 ·exact (hb.cell (p := ⟨bA, oA + k * 8 + 3, none⟩) hbA).trans e3
 ·exact (hb.cell (p := ⟨bA, oA + k * 8 + 4, none⟩) hbA).trans e4
 ·exact (hb.cell (p := ⟨bA, oA + k * 8 + 5, none⟩) hbA).trans e5
 ·exact (hb.cell (p := ⟨bA, oA + k * 8 + 6, none⟩) hbA).trans e6
 ·exact (hb.cell (p := ⟨bA, oA + k * 8 + 7, none⟩) hbA).trans e7
theorem InP.nat {l : List Pan} {x : Plc} (h : InP l x) : ∃ k : Nat, x.1 = k ∧ k < l.length := by
 unfold InP at h
 exact ⟨x.1.toNat, by omega, by omega⟩
def moF (l : List Pan) (plan : List Plc) (k : Nat) : Int := (plan.take k).foldl (fun m x => max m ((Zin (pcP l x)).2 + x.2.2)) 0
theorem Zm8 (l : List Pan) {plan : List Plc} {k : Nat} (hk : k < plan.length) : moF l plan (k + 1) = max (moF l plan k) ((Zin (pcP l plan[k])).2 + plan[k].2.2) := by
 unfold moF
 rw [List.take_succ_eq_append_getElem hk, List.foldl_append]
 rfl
theorem Zm9 {l : List Pan} (h : PieL l) {plan : List Plc} (hi : InL l plan) (hn : Zlh plan 2000000000) (k : Nat) (hk : k ≤ plan.length) : 0 ≤ moF l plan k ∧ moF l plan k ≤ 2000005000 := by
 induction k with
 | zero => unfold moF; simp
 | succ k ih =>
  have h1 := ih (by omega)
  rw [Zm8 l (by omega : k < plan.length)]
  have h2 := hn _ (List.getElem_mem (by omega : k < plan.length))
  have h3 := (Zli h (hi _ (List.getElem_mem (by omega : k < plan.length)))).hi
  omega
theorem Zma {va vp : Value} (l : List Pan) (plan : List Plc) (w : World) (ha : SlW w va l) (hp : SlL w vp plan) (hk : PieL l) (hi : InL l plan) (hn : Zlh plan 2000000000) (hl : plan.length ≤ 1000) :
  Calls Tryz.prog 64 #[va, vp] w (RV w (.int .i64 (lenP l plan))) := by
 have HF := Lib.hid (fun k hk' => Zm9 hk hi hn k hk')
 have HS := Lib.hid (fun k hk' => Zm8 l (plan := plan) (k := k) hk')
 have HR : Hid (lenP l plan = (moF l plan plan.length + 1) / 2) := by unfold Hid lenP Zis moF; rw [List.take_length]
 have HGO := Lib.hid (fun o (ho : o ∈ plan) => Zli hk (hi o ho))
 have HI := Lib.hid hi
 have HN := Lib.hid hn
 obtain ⟨AA, cA, rfl⟩ := ha.shape
 obtain ⟨AP, cP, rfl, hlP, hcP, hrP⟩ := hp
 rw [HR.out]
 clear hi hn HR hk
 go_enter Tryz.func64, Tryz.ntmps64
 go_wp2
 go_loopw [5, 10] (fun m i wr => ∃ k : Nat, k ≤ plan.length ∧ i = .int .i64 k ∧ m = .int .i64 (moF l plan k) ∧ Below w.heap.size w wr) (fun _ i _ => plan.length - (intOf i).toNat)
 case atStart => exact ⟨0, Nat.zero_le _, rfl, rfl, Z03⟩
 case round =>
  obtain ⟨k, hk, rfl, rfl, hbw⟩ := hrel; obtain ⟨wo, rfl⟩ : ∃ x, x = wr := ⟨_, rfl⟩
  by_cases hlt : k < plan.length
  ·obtain ⟨b, off, rfl, hb, c0, c1, c2⟩ := (hrP.below hbw).plc hlt
   have ho := HI.out _ (List.getElem_mem hlt)
   have hno := HN.out _ (List.getElem_mem hlt)
   have hgo := HGO.out _ (List.getElem_mem hlt)
   have hfk := HF.out k hk
   have HSk := Lib.hid (HS.out k hlt)
   obtain ⟨⟨n, u, f⟩, hoo⟩ : ∃ o, plan[k] = o := ⟨_, rfl⟩
   rw [hoo] at ho hno hgo c0 c1 c2 HSk; obtain ⟨ko, hko0, hko⟩ := ho.nat; simp only at hno c0 c1 c2 hko0
   subst hko0; have hX := Blk.new wo 100 #[.int .i64 ko, .bool u, .int .i64 f]
   have hbx : Below w.heap.size w (wo.alloc (.cells #[.int .i64 ko, .bool u, .int .i64 f] 100)) := Z04 hbw _
   go_upto_region 5 with fail; obtain ⟨wx, hwx⟩ : ∃ X, wo.alloc (.cells #[.int .i64 ko, .bool u, .int .i64 f] 100) = X := ⟨_, rfl⟩
   obtain ⟨gx, hgx⟩ : ∃ X, wo.heap.size = X := ⟨_, rfl⟩
   rw [hwx] at hbx; rw [hwx, hgx] at hX; rw [hwx, hgx]; clear hwx hgx c0 c1 c2 hb; obtain ⟨bA, oA, p0, p5, q0, q5, r0, r5, p1, p2, p6, p7, q1, q2, q6, q7, r2, r7, p3, p4, q3, q4, hAA, hbAx, ⟨e0, e1, e2, e3, e4, e5, e6, e7⟩, hat2, hrr, hnt⟩ := ha.look hko u f hbx
   subst hAA; have hgl := hgo.lo
   have hgm := hgo.mid
   have hgh := hgo.hi
   obtain ⟨P, hP⟩ : ∃ P, pcP l ((ko : Int), u, f) = P := ⟨_, rfl⟩
   rw [hP] at hat2 HSk hgl hgm hgh; obtain ⟨F, hFF⟩ : ∃ F, moF l plan k = F := ⟨_, rfl⟩
   rw [hFF] at HSk hfk ⊢; obtain ⟨⟨E1, E2⟩, hEE⟩ : ∃ F, Zin P = F := ⟨_, rfl⟩
   rw [hEE] at HSk hat2 hgl hgm hgh; simp only at hat2 hgl hgm hgh
   have fX := hX.facts
   clear hP hFF hEE hgo hrr hnt; refine Z0z [0, 1, 2, 3, 4, 5, 6, 10, 11] [(7, false), (8, false), (9, false), (12, false)] [13, 14] (by kernel_rfl) (by kernel_rfl) (fun d _ _ _ _ h => by cases d <;> exact h) ?_
   simp only [List.map_cons, List.map_nil, List.getD_cons_zero, List.getD_cons_succ]; repeat (go_big_quiet_step (fail))
   refine wpQuiet_nil ?_; refine Z11 rfl (fun K hK => ?_); go_simp; refine (hat2 _).mono ?_
   rintro e w7 ⟨rfl, hb7⟩; refine hK _ _ (by (repeat first|exact J0|assumption|(apply J1;assumption)|apply J2|apply J3|apply J4)) ?_
   clear hK K; iterate 3 (refine Z11 rfl (fun K hK => ?_); go_simp; refine hK _ _ (by (repeat first|exact J0|assumption|(apply J1;assumption)|apply J2|apply J3|apply J4)) ?_; clear hK K)
   refine Z10 ?_; have hbx7 : Below w.heap.size w w7 := Z08 (show Below wx.heap.size wx w7 by (repeat first|exact J0|assumption|(apply J1;assumption)|apply J2|apply J3|apply J4)) hbx
   clear hbx hb7 fX hX hat2 e0 e1 e2 e3 e4 e5 e6 e7; go_wp2; go_roundw; case rel => exact ⟨k + 1, by omega, by go_num, by rw [HSk.out], hbx7⟩
   case measure => simp [intOf]; omega
  ·obtain rfl : k = plan.length := by omega
   have hfk := HF.out _ hk
   obtain ⟨F, hFF⟩ : ∃ F, moF l plan plan.length = F := ⟨_, rfl⟩
   rw [hFF] at hfk ⊢; go_wp2; go_ret; exact ⟨by rw [hFF]; rfl, hbw⟩
theorem Zmb {b : Bal} {l : List Pan} {plan : List Plc} {k : Nat} (hk : k < plan.length) : fitG b l (plan.take k) (plan.drop k) = if outB b l plan[k] = true then 32 else if crsB l (plan.take k) plan[k] = true then 16 else fitG b l (plan.take (k + 1)) (plan.drop (k + 1)) := by
 rw [List.drop_eq_getElem_cons hk, fitG, ← List.take_succ_eq_append_getElem hk]
theorem Zmc (l : List Pan) {plan : List Plc} (x : Plc) {k : Nat} (hk : k < plan.length) : crsB l (plan.take (k + 1)) x = (crsB l (plan.take k) x || decide (x.2.2 - plan[k].2.2 < gapB (stP l plan[k]) (stP l x))) := by
 unfold crsB
 rw [List.take_succ_eq_append_getElem hk, List.any_append]
 simp
theorem Zmd {l : List Pan} {plan : List Plc} {x : Plc} {j k : Nat} (hj : j < plan.length) (hjk : j < k) (h : decide (x.2.2 - plan[j].2.2 < gapB (stP l plan[j]) (stP l x)) = true) : crsB l (plan.take k) x = true := by
 unfold crsB
 rw [List.any_eq_true]
 exact ⟨plan[j], by rw [List.mem_take_iff_getElem]; exact ⟨j, by omega, rfl⟩, h⟩
theorem Zme {va vp : Value} (b : Bal) (l : List Pan) (plan : List Plc) (w : World) (ha : SlW w va l) (hp : SlL w vp plan) (hk : PieL l) (hi : InL l plan) (hn : Zlh plan 1000000000) (hl : plan.length ≤ 1000) (hbl : -1000000 ≤ b.2.2 ∧ b.2.2 ≤ 1000000) :
  Calls Tryz.prog 65 #[.agg #[sV b.1, .int .i64 b.2.1, .int .i64 b.2.2], va, vp] w (RV w (.int .i64 (fitE b l plan))) := by
 have HA := Lib.hid (fun k hk' => Zmb (b := b) (l := l) (plan := plan) (k := k) hk')
 have HC := Lib.hid (fun x k hk' => Zmc l (plan := plan) x (k := k) hk')
 have HCI := Lib.hid (fun x j k hj hjk h => Zmd (l := l) (plan := plan) (x := x) (j := j) (k := k) hj hjk h)
 have HOB := Lib.hid (fun x => show outB b l x = (decide (b.2.1 < ((stP l x).length : Int)) || (decide ((Zin (pcP l x)).1 + x.2.2 < 0) || decide (2 * b.2.2 < (Zin (pcP l x)).2 + x.2.2))) from rfl)
 have HE : Hid (fitE b l plan = fitG b l (plan.take 0) (plan.drop 0)) := rfl
 have HGO := Lib.hid (fun o (ho : o ∈ plan) => Zli hk (hi o ho))
 have HI := Lib.hid hi
 have HN := Lib.hid hn
 obtain ⟨AA, cA, rfl⟩ := ha.shape
 obtain ⟨AP, cP, rfl, hlP, hcP, hrP⟩ := hp
 obtain ⟨nm, br, bl⟩ := b
 simp only at HOB hbl
 clear hi hn hk
 unfold sV
 simp only
 have hB0 := Blk.new w 27 #[.string ⟨nm.toArray⟩, .int .i64 br, .int .i64 bl]
 go_enter Tryz.func65, Tryz.ntmps65
 go_wp2
 go_loopw [14] (fun s wr => ∃ k : Nat, k ≤ plan.length ∧ s = .int .i64 k ∧ Hid (fitE (nm, br, bl) l plan = fitG (nm, br, bl) l (plan.take k) (plan.drop k)) ∧ Blk wr w.heap.size 27 #[.string ⟨nm.toArray⟩, .int .i64 br, .int .i64 bl] ∧ Below w.heap.size w wr) (fun i _ => plan.length - (intOf i).toNat)
 case atStart => exact ⟨0, Nat.zero_le _, rfl, HE, hB0, Z04 Z03 _⟩
 case round =>
  clear hB0; obtain ⟨k, hk, rfl, HK, hB, hbw⟩ := hrel; obtain ⟨wo, rfl⟩ : ∃ x, x = wr := ⟨_, rfl⟩
  by_cases hlt : k < plan.length
  ·obtain ⟨bP, oP, rfl, hb, c0, c1, c2⟩ := (hrP.below hbw).plc hlt
   have hx := HI.out _ (List.getElem_mem hlt)
   have hnx := HN.out _ (List.getElem_mem hlt)
   have HGX := Lib.hid (HGO.out _ (List.getElem_mem hlt))
   have HAk := Lib.hid (HA.out k hlt)
   have HCk := Lib.hid (fun j hj => HC.out (plan[k]'hlt) j hj)
   have HCIk := Lib.hid (fun j hj hjk h => HCI.out (plan[k]'hlt) j k hj hjk h)
   have HOk := Lib.hid (HOB.out plan[k])
   obtain ⟨⟨n, t, f⟩, hoo⟩ : ∃ o, plan[k] = o := ⟨_, rfl⟩
   rw [hoo] at hx hnx HGX c0 c1 c2 HAk HCk HCIk HOk; obtain ⟨kx, hkx0, hkx⟩ := hx.nat; simp only at hnx c0 c1 c2 hkx0 HOk
   subst hkx0; have hX := Blk.new wo 100 #[.int .i64 kx, .bool t, .int .i64 f]
   have hal : Below wo.heap.size wo (wo.alloc (.cells #[.int .i64 kx, .bool t, .int .i64 f] 100)) := Z04 Z03 _
   have hBa := hB.below hal
   have hbx := Z08 hal hbw
   go_upto_region 4 with fail; obtain ⟨wx, hwx⟩ : ∃ X, wo.alloc (.cells #[.int .i64 kx, .bool t, .int .i64 f] 100) = X := ⟨_, rfl⟩
   obtain ⟨gx, hgx⟩ : ∃ X, wo.heap.size = X := ⟨_, rfl⟩
   rw [hwx] at hbx hBa; rw [hwx, hgx] at hX; rw [hwx, hgx]; clear hwx hgx c0 c1 c2 hb hal hB; obtain ⟨bA, oA, p0, p5, q0, q5, r0, r5, p1, p2, p6, p7, q1, q2, q6, q7, r2, r7, p3, p4, q3, q4, hAA, hbAx, ⟨e0, e1, e2, e3, e4, e5, e6, e7⟩, hat2, hrr, hnt⟩ := ha.look hkx t f hbx
   subst hAA; have HSP : Hid (stP l ((kx : Int), t, f) = Z6y (pcP l ((kx : Int), t, f))) := rfl
   have hgl := HGX.out.lo
   have hgm := HGX.out.mid
   have hgh := HGX.out.hi
   obtain ⟨P, hP⟩ : ∃ P, pcP l ((kx : Int), t, f) = P := ⟨_, rfl⟩
   rw [hP] at hat2 HSP HGX HOk hgl hgm hgh hrr; rw [HSP.out] at HOk; obtain ⟨⟨E1, E2⟩, hEE⟩ : ∃ F, Zin P = F := ⟨_, rfl⟩
   rw [hEE] at hat2 HOk hgl hgm hgh; simp only at hat2 HOk hgl hgm hgh
   obtain ⟨M, hM⟩ : ∃ F, (netL (pcP l ((kx : Int), t, f))).length = F := ⟨_, rfl⟩
   rw [hP] at hM; rw [hM] at hat2; have fX := hX.facts
   clear hP hEE hM hnt; go_upto_region 4 with fail; go_cut [9] from 19 to 25 ((fun s9 wz => ∃ g, s9 = .pointer (some ⟨g, 0, none⟩) ∧ Blk wz g 121 #[.slice r0 (Z6y P).length r2, .int .i64 E1, .int .i64 E2, .slice r5 M r7] ∧ wx.heap.size ≤ g ∧ Below wx.heap.size wx wz))
   case first =>
    refine Z5h [0, 1, 2, 3, 4, 5] (.alt (.br 6 (.alt (.br 7 (.fin) (.stop))) (.br 7 (.alt (.br 6 (.fin) (.stop))) (.stop)))) [8] (by kernel_rfl) (by kernel_rfl) (fun d _ _ _ _ h => by cases d <;> exact h) ?_
    simp only [List.map_cons, List.map_nil, List.getD_cons_zero, List.getD_cons_succ]; repeat (go_big_quiet_step (fail))
    refine wpQuiet_nil ?_; refine Z5j (Z5l rfl rfl ?_ (Z5l rfl rfl ?_ Z5k))
    ·intro K hK
     go_simp; refine (hat2 _).mono ?_
     rintro e w2 ⟨rfl, hb2⟩; refine hK _ _ (by (repeat first|exact J0|assumption|(apply J1;assumption)|apply J2|apply J3|apply J4)) ?_
     clear hK K; refine Z5j (Z5l rfl rfl ?_ Z5k); have hS0 := Blk.new (w2) 121 #[.slice none 0 0, .int .i64 0, .int .i64 0, .slice none 0 0]
     intro K hK; go_simp; refine hK _ _ (by (repeat first|exact J0|assumption|(apply J1;assumption)|apply J2|apply J3|apply J4)) ?_
     clear hK K; refine Z5i ?_; have hS1 := hS0.below (show Below _ _ (w2.alloc (.cells #[.slice none 0 0, .int .i64 0, .int .i64 0, .slice none 0 0] 121)) by (repeat first|exact J0|assumption|(apply J1;assumption)|apply J2|apply J3|apply J4))
     go_wp2_with (refine Z4n hS1 rfl _ _ _ rfl rfl rfl (by rfl) (by kernel_rfl) (by kernel_rfl) ?_; intro w7 hS7 hc7)
     have hg7 : wx.heap.size ≤ (w2).heap.size := Below.size (show Below wx.heap.size wx (w2) by (repeat first|exact J0|assumption|(apply J1;assumption)|apply J2|apply J3|apply J4))
     have hb7 : Below wx.heap.size wx w7 := Z9f (by (repeat first|exact J0|assumption|(apply J1;assumption)|apply J2|apply J3|apply J4)) hc7 hg7
     go_meet; case rel => exact ⟨((w2).heap.size), rfl, hS7, hg7, hb7⟩
    ·have hS0 := Blk.new (wx.drew) 121 #[.slice none 0 0, .int .i64 0, .int .i64 0, .slice none 0 0]
     intro K hK; go_simp; refine hK _ _ (by (repeat first|exact J0|assumption|(apply J1;assumption)|apply J2|apply J3|apply J4)) ?_
     clear hK K; refine Z5j (Z5l rfl rfl ?_ Z5k); intro K hK; go_simp; refine (hat2 _).mono ?_
     rintro e w2 ⟨rfl, hb2⟩; refine hK _ _ (by (repeat first|exact J0|assumption|(apply J1;assumption)|apply J2|apply J3|apply J4)) ?_
     clear hK K; refine Z5i ?_; have hS1 := hS0.below (show Below _ _ (w2) by (repeat first|exact J0|assumption|(apply J1;assumption)|apply J2|apply J3|apply J4))
     go_wp2_with (refine Z4n hS1 rfl _ _ _ rfl rfl rfl (by rfl) (by kernel_rfl) (by kernel_rfl) ?_; intro w7 hS7 hc7)
     have hg7 : wx.heap.size ≤ (wx.drew).heap.size := Below.size (show Below wx.heap.size wx (wx.drew) by (repeat first|exact J0|assumption|(apply J1;assumption)|apply J2|apply J3|apply J4))
     have hb7 : Below wx.heap.size wx w7 := Z9f (by (repeat first|exact J0|assumption|(apply J1;assumption)|apply J2|apply J3|apply J4)) hc7 hg7
     go_meet; case rel => exact ⟨((wx.drew).heap.size), rfl, hS7, hg7, hb7⟩
   case rest =>
    obtain ⟨g9, rfl, hW, hgg, hbc⟩ := hcut; obtain ⟨w3, rfl⟩ : ∃ x, x = wc := ⟨_, rfl⟩
    have hX3 := hX.below hbc
    have hB3 := hBa.below hbc
    have hbw3 := Z08 hbc hbx
    have fX3 := hX3.facts
    have fB3 := hB3.facts
    have fW3 := hW.facts
    clear hX hBa hbc hbx fX hat2 e0 e1 e2 e3 e4 e5 e6 e7; have hS0 := HGX.out.pos
    have hS1 := HGX.out.few
    by_cases hc1 : br < ((Z6y P).length : Int)
    ·have r1 : (br < ((Z6y P).length : Int)) = True := eq_true hc1
     have HV : Hid (fitE (nm, br, bl) l plan = 32) := by unfold Hid; rw [HK.out, HAk.out, HOk.out, decide_eq_true hc1]; rfl
     clear hc1; go_wp2; go_ret; exact ⟨by rw [HV.out]; rfl, hbw3⟩
    ·by_cases hc2 : E1 + f < 0
     ·have r1 : (br < ((Z6y P).length : Int)) = False := eq_false hc1
      have r2 : (E1 + f < 0) = True := eq_true hc2
      have HV : Hid (fitE (nm, br, bl) l plan = 32) := by unfold Hid; rw [HK.out, HAk.out, HOk.out, decide_eq_true hc2, Bool.true_or, Bool.or_true]; rfl
      clear hc1 hc2; go_wp2; go_ret; exact ⟨by rw [HV.out]; rfl, hbw3⟩
     ·by_cases hc3 : 2 * bl < E2 + f
      ·have r1 : (br < ((Z6y P).length : Int)) = False := eq_false hc1
       have r2 : (E1 + f < 0) = False := eq_false hc2
       have r3 : (2 * bl < E2 + f) = True := eq_true hc3
       have HV : Hid (fitE (nm, br, bl) l plan = 32) := by unfold Hid; rw [HK.out, HAk.out, HOk.out, decide_eq_true hc3, Bool.or_true, Bool.or_true]; rfl
       clear hc1 hc2 hc3; go_wp2; go_ret; exact ⟨by rw [HV.out]; rfl, hbw3⟩
      ·have r1 : (br < ((Z6y P).length : Int)) = False := eq_false hc1
       have r2 : (E1 + f < 0) = False := eq_false hc2
       have r3 : (2 * bl < E2 + f) = False := eq_false hc3
       have HO2 : Hid (fitG (nm, br, bl) l (plan.take k) (plan.drop k) = if crsB l (plan.take k) ((kx : Int), t, f) = true then 16 else fitG (nm, br, bl) l (plan.take (k + 1)) (plan.drop (k + 1))) := by
        unfold Hid; rw [HAk.out, HOk.out, decide_eq_false hc1, decide_eq_false hc2, decide_eq_false hc3]; rfl
       clear hc1 hc2 hc3; go_upto_region 7 with fail; clear r1 r2 r3 fX3 fB3 fW3; go_wp2; go_loopw [57] (fun s wr => ∃ j : Nat, j ≤ k ∧ s = .int .i64 j ∧ Hid (crsB l (plan.take j) ((kx : Int), t, f) = false) ∧ Blk wr gx 100 #[.int .i64 kx, .bool t, .int .i64 f] ∧ Blk wr g9 121 #[.slice r0 (Z6y P).length r2, .int .i64 E1, .int .i64 E2, .slice r5 M r7] ∧ Blk wr w.heap.size 27 #[.string ⟨nm.toArray⟩, .int .i64 br, .int .i64 bl] ∧ Below w.heap.size w wr) (fun i _ => k - (intOf i).toNat)
       case atStart => exact ⟨0, Nat.zero_le _, rfl, rfl, hX3, hW, hB3, hbw3⟩
       case round =>
        clear hX3 hW hB3 hbw3; obtain ⟨j, hj, rfl, HJ, hX3, hW3, hB3, hbw3⟩ := hrel; obtain ⟨wi, rfl⟩ : ∃ x, x = wr := ⟨_, rfl⟩
        by_cases hlj : j < k
        ·have hjp : j < plan.length := by omega
         obtain ⟨_, _, hPP, hb, c0, c1, c2⟩ := (hrP.below hbw3).plc hjp
         obtain ⟨rfl, rfl⟩ : bP = _ ∧ oP = _ := by simpa using hPP
         have ho := HI.out _ (List.getElem_mem hjp)
         have hno := HN.out _ (List.getElem_mem hjp)
         have hgo := HGO.out _ (List.getElem_mem hjp)
         have HCj := Lib.hid (HCk.out j hjp)
         have HIj := Lib.hid (HCIk.out j hjp hlj)
         obtain ⟨⟨n, u, fo⟩, hoo⟩ : ∃ o, plan[j] = o := ⟨_, rfl⟩
         rw [hoo] at ho hno hgo c0 c1 c2 HCj HIj; obtain ⟨ko, hko0, hko⟩ := ho.nat; simp only at hno c0 c1 c2 hko0 HCj HIj
         subst hko0; have hX := Blk.new wi 100 #[.int .i64 ko, .bool u, .int .i64 fo]
         have hal : Below wi.heap.size wi (wi.alloc (.cells #[.int .i64 ko, .bool u, .int .i64 fo] 100)) := Z04 Z03 _
         have hXa := hX3.below hal
         have hWa := hW3.below hal
         have hBa := hB3.below hal
         have hbx := Z08 hal hbw3
         go_upto_region 10 with fail; obtain ⟨wx, hwx⟩ : ∃ X, wi.alloc (.cells #[.int .i64 ko, .bool u, .int .i64 fo] 100) = X := ⟨_, rfl⟩
         obtain ⟨go, hgo'⟩ : ∃ X, wi.heap.size = X := ⟨_, rfl⟩
         rw [hwx] at hXa hWa hBa hbx; rw [hwx, hgo'] at hX; rw [hwx, hgo']; clear hwx hgo' hal c0 c1 c2 hb hX3 hW3 hB3; obtain ⟨bA2, oA2, p0, p5, q0, q5, s0, s5, p1, p2, p6, p7, q1, q2, q6, q7, s2, s7, p3, p4, q3, q4, hAA, hbAx2, ⟨e0, e1, e2, e3, e4, e5, e6, e7⟩, hat2, hss, hnt⟩ := ha.look hko u fo hbx
         obtain ⟨rfl, rfl⟩ : bA = bA2 ∧ oA = oA2 := by simpa using hAA
         have hfx : gapB (stP l ((ko : Int), u, fo)) (stP l ((kx : Int), t, f)) = gapB (Z6y (pcP l ((ko : Int), u, fo))) (Z6y P) := by rw [HSP.out]; rfl
         obtain ⟨O, hO⟩ : ∃ O, pcP l ((ko : Int), u, fo) = O := ⟨_, rfl⟩
         rw [hO] at hat2 hss hfx hgo; rw [hfx] at HCj HIj; have hgap := Zle hgo.near HGX.out.near
         have hmin : 0 < minL (Z6y O) (Z6y P) := by have := hgo.pos; have := HGX.out.pos; unfold minL; omega
         have hfew := hgo.few
         obtain ⟨⟨F1, F2⟩, hEE⟩ : ∃ F, Zin O = F := ⟨_, rfl⟩
         obtain ⟨MO, hMO⟩ : ∃ F, (netL O).length = F := ⟨_, rfl⟩
         rw [hEE, hMO] at hat2; simp only at hat2
         have HGP := Lib.hid (fun W (h1 : Rd trc 4 W s0 (Z6y O)) (h2 : Rd trc 4 W r0 (Z6y P)) => Zjy (a1 := F1) (a2 := F2) (a3' := s5) (a4 := MO) (a5 := s7) (b1 := E1) (b2 := E2) (b3' := r5) (b4 := M) (b5 := r7) (ca := s2) (cb := r2) (Z6y O) (Z6y P) hgo.near HGX.out.near hmin (by omega) (by omega) h1 h2)
         obtain ⟨G, hG⟩ : ∃ G, gapB (Z6y O) (Z6y P) = G := ⟨_, rfl⟩
         rw [hG] at HCj HIj HGP hgap; have HSS := Lib.hid hss
         have HRR := Lib.hid hrr
         have fX := hX.facts
         have fXa := hXa.facts
         have fWa := hWa.facts
         clear hO hfx hG hmin hfew hgo hEE hMO hss hnt hAA; refine Z0z [0, 1, 2, 3, 4, 5, 6, 7, 8, 9, 10, 12] [(11, false), (13, false)] [14] (by kernel_rfl) (by kernel_rfl) (fun d _ _ _ _ h => by cases d <;> exact h) ?_
         simp only [List.map_cons, List.map_nil, List.getD_cons_zero, List.getD_cons_succ]; repeat (go_big_quiet_step (fail))
         refine wpQuiet_nil ?_; refine Z11 rfl (fun K hK => ?_); go_simp; refine (hat2 _).mono ?_
         rintro e w7 ⟨rfl, hb7⟩; refine hK _ _ (by (repeat first|exact J0|assumption|(apply J1;assumption)|apply J2|apply J3|apply J4)) ?_
         clear hK K; refine Z11 rfl (fun K hK => ?_); go_simp; refine (HGP.out _ (HSS.out.below (Z08 (show Below wx.heap.size wx w7 by (repeat first|exact J0|assumption|(apply J1;assumption)|apply J2|apply J3|apply J4)) hbx)) (HRR.out.below (Z08 (show Below wx.heap.size wx w7 by (repeat first|exact J0|assumption|(apply J1;assumption)|apply J2|apply J3|apply J4)) hbx))).mono ?_
         rintro e w8 ⟨rfl, hb8⟩; refine hK _ _ (by (repeat first|exact J0|assumption|(apply J1;assumption)|apply J2|apply J3|apply J4)) ?_
         clear hK K; refine Z10 ?_; have hb8x : Below wx.heap.size wx w8 := by (repeat first|exact J0|assumption|(apply J1;assumption)|apply J2|apply J3|apply J4)
         by_cases hcc : f - fo < G
         ·have r1 : (f - fo < G) = True := eq_true hcc
          have HV : Hid (fitE (nm, br, bl) l plan = 16) := by unfold Hid; rw [HK.out, HO2.out, if_pos (HIj.out (decide_eq_true hcc))]
          clear hcc; go_wp2; go_ret; exact ⟨by rw [HV.out]; rfl, Z08 hb8x hbx⟩
         ·have r1 : (f - fo < G) = False := eq_false hcc
          have HJN : Hid (crsB l (plan.take (j + 1)) ((kx : Int), t, f) = false) := by unfold Hid; rw [HCj.out, HJ.out, decide_eq_false hcc]; rfl
          clear hcc; have hXe := hXa.below hb8x
          have hWe := hWa.below hb8x
          have hBe := hBa.below hb8x
          have hbe := Z08 hb8x hbx
          clear hXa hWa hBa hbx hb7 hb8 hb8x fX fXa fWa hX hat2 e0 e1 e2 e3 e4 e5 e6 e7; go_wp2; go_roundw; case rel => exact ⟨j + 1, by omega, by go_num, HJN, hXe, hWe, hBe, hbe⟩
          case measure => simp [intOf]; omega
        ·obtain rfl : j = k := by omega
         have HN2 : Hid (fitE (nm, br, bl) l plan = fitG (nm, br, bl) l (plan.take (j + 1)) (plan.drop (j + 1))) := by unfold Hid; rw [HK.out, HO2.out, HJ.out]; rfl
         go_wp2; go_roundw; case rel => exact ⟨j + 1, by omega, by go_num, HN2, hB3, hbw3⟩
         case measure => simp [intOf]; omega
  ·obtain rfl : k = plan.length := by omega
   have HEE : Hid (fitE (nm, br, bl) l plan = 0) := by unfold Hid; rw [HK.out, List.drop_length]; rfl
   go_wp2; go_ret; exact ⟨by rw [HEE.out]; rfl, hbw⟩
theorem Zmf {n : Nat} {plan : List Plc} (h : plcE n plan = 0) : plan.length ≤ 16 ∧ (∀ x ∈ plan, 0 ≤ x.1 ∧ x.1 < (n : Int)) ∧ Zlh plan 100000 ∧ EvnP plan := by
  unfold plcE at h; split at h
  · omega
  · have key : ∀ (r done : List Plc), plcG n done r = 0 → (∀ x ∈ r, 0 ≤ x.1 ∧ x.1 < (n : Int)) ∧ Zlh r 100000 ∧ EvnP r := by
      intro r; induction r with
      | nil => intro _ _; exact ⟨fun x hx => (by cases hx), fun x hx => (by cases hx), fun x hx => (by cases hx)⟩
      | cons q t ih =>
        intro done hg; rw [plcG] at hg; split at hg
        · rename_i h0
          unfold Zit at h0; obtain ⟨e1, e⟩ := Zjo h0
          obtain ⟨_, e⟩ := Zjo e
          obtain ⟨e3, _⟩ := Zjo e
          unfold atE_ at e3; obtain ⟨e3, e⟩ := Zjo e3
          obtain ⟨e4, _⟩ := Zjo e
          have e3 := Z9s e3
          obtain ⟨h1, h2, h3⟩ := ih _ hg
          have hq1 : 0 ≤ q.1 ∧ q.1 < (n : Int) := by
            unfold Z15 at e1; split at e1
            · cases e1
            · rename_i hh
              simp only [Bool.or_eq_true, decide_eq_true_eq, not_or] at hh; omega
          have hq2 : q.2.2 % 2 = 0 := by
            unfold Z15 at e4; split at e4
            · cases e4
            · rename_i hh
              simpa using hh
          refine ⟨fun x hx => ?_, fun x hx => ?_, fun x hx => ?_⟩
          · rcases List.mem_cons.1 hx with rfl | hx
            · exact hq1
            · exact h1 x hx
          · rcases List.mem_cons.1 hx with rfl | hx
            · omega
            · exact h2 x hx
          · rcases List.mem_cons.1 hx with rfl | hx
            · exact hq2
            · exact h3 x hx
        · rename_i h0
          exact absurd hg h0
    exact ⟨by omega, key plan [] h⟩
def Zmg (l : List Pan) (plan : List Plc) : Int := if pieE l = 0 then plcE l.length plan else pieE l
theorem Zmh {l : List Pan} {plan : List Plc} (hn : ∀ p ∈ l, p.1.length ≤ 1000000) (h : Zmg l plan = 0) : PieL l ∧ l.length ≤ 16 ∧ plan.length ≤ 16 ∧ InL l plan ∧ Zlh plan 100000 ∧ EvnP plan := by
 unfold Zmg at h
 split at h
 ·rename_i h0
  obtain ⟨h1, h2⟩ := Zjp hn h0
  obtain ⟨h3, h4, h5, h6⟩ := Zmf h
  exact ⟨h1, h2, h3, h4, h5, h6⟩
 ·rename_i h0
  exact absurd h h0
theorem Zlh.mono {plan : List Plc} {A B : Int} (h : Zlh plan A) (hb : A ≤ B) : Zlh plan B := fun o ho => by have := h o ho; omega
theorem Zmi {l : List Pan} {order : List Plc} (hi : InL l order) : ∀ k, k ≤ order.length → InL l (layP l (order.take k))
 | 0, _ => fun o ho => by cases ho
 | k + 1, hk => by
  rw [Zir l (by omega : k < order.length)]
  intro o ho; rcases List.mem_append.1 ho with ho | ho
  ·exact Zmi hi k (by omega) o ho
  ·obtain rfl := List.mem_singleton.1 ho
   have := hi (order[k]'(by omega)) (List.getElem_mem _)
   exact this
theorem Zmj {l : List Pan} (h : PieL l) {order : List Plc} (hi : InL l order) : ∀ k, k ≤ order.length → Zlh (layP l (order.take k)) (5000 + 200003 * (k : Int))
 | 0, _ => fun o ho => by cases ho
 | k + 1, hk => by
  have h1 := Zmj h hi k (by omega)
  rw [Zir l (by omega : k < order.length)]
  intro o ho; rcases List.mem_append.1 ho with ho | ho
  ·have := h1 o ho
   omega
  ·obtain rfl := List.mem_singleton.1 ho
   have h2 := Zlj h (hi _ (List.getElem_mem (by omega : k < order.length))) (Zmi hi k (by omega)) (by omega : (5000 : Int) ≤ 5000 + 200003 * (k : Int)) h1 (layP l (order.take k)).length (Nat.le_refl _)
   rw [Zlg] at h2; unfold Ziq; simp only
   omega
theorem Zmk (l : List Pan) (order : List Plc) : ∀ k, k ≤ order.length → (layP l (order.take k)).length = k
 | 0, _ => rfl
 | k + 1, hk => by rw [Zir l (by omega : k < order.length), List.length_append, Zmk l order k (by omega)]; rfl
theorem Zml {v u : Value} (l : List Pan) (order : List Plc) (w : World) (h : SlP w v l) (hp : SlL w u order) (hnm : ∀ p ∈ l, p.1.length ≤ 1000000) (hll : l.length ≤ 100000) (hpl : order.length ≤ 100000) :
  Calls Tryz.prog 13 #[v, u] w (RGE plc 3 100 w (Z5w (Zmg l order) (layP l order)) (Zmg l order)) := by
 have hc := fun W (hb : Below w.heap.size w W) => Zm7 l order W (h.below hb) (hp.below hb) hnm hll hpl
 have hbo : (if pieE l = 0 then plcE l.length order else pieE l) = Zmg l order := rfl
 rw [hbo] at hc
 clear hbo
 by_cases hE : Zmg l order = 0
 ·obtain ⟨hPL, hl16, hp16, hIL, hNP, hEV⟩ := Zmh hnm hE
  have hm := fun W (hb : Below w.heap.size w W) => Zkc l W (h.below hb) hl16 hPL
  have HNX := Lib.hid (fun W va vp plan x ha hp' hx hi hn hl => Zlk (va := va) (vp := vp) l plan x W ha hp' hPL hx hi hn hl)
  have HIN := Lib.hid (fun k hk => Zmi hIL k hk)
  have HNR := Lib.hid (fun k hk => Zmj hPL hIL k hk)
  have HLN := Lib.hid (Zmk l order)
  have HSN := Lib.hid (fun k hk => Zir l (order := order) (k := k) hk)
  have HI := Lib.hid hIL
  rw [hE] at hc ⊢; rw [show Z5w 0 (layP l order) = layP l order from rfl]
  have HW : Hid (SlP w v l) := h
  obtain ⟨xs, ⟨A, c, rfl, _, _, _⟩, _⟩ := h; obtain ⟨B, d, rfl, _, _, hr⟩ := hp; clear hE hPL hIL hNP hEV; go_enter Tryz.func13, Tryz.ntmps13
  go_wp2_with fail; refine (hc _ (by (repeat first|exact J0|assumption|(apply J1;assumption)|apply J2|apply J3|apply J4))).mono ?_
  rintro e w2 ⟨rfl, hb2⟩; go_wp2_with fail; refine (hm _ (by (repeat first|exact J0|assumption|(apply J1;assumption)|apply J2|apply J3|apply J4))).mono ?_
  rintro e w3 ⟨va, rfl, hWa, hb3⟩; obtain ⟨Aa, ca, rfl⟩ := hWa.shape; have hbw3 : Below w.heap.size w w3 := by (repeat first|exact J0|assumption|(apply J1;assumption)|apply J2|apply J3|apply J4)
  clear hc hm hb2 hb3; go_wp2; go_loopw [8, 21] (fun o i wr => ∃ k : Nat, k ≤ order.length ∧ i = .int .i64 k ∧ Own plc 3 w3.heap.size 100 wr o (layP l (order.take k)) ∧ Below w3.heap.size w3 wr) (fun _ i _ => order.length - (intOf i).toNat)
  case atStart => exact ⟨0, Nat.zero_le _, rfl, Own.nil_, Z03⟩
  case round =>
   obtain ⟨k, hk, rfl, hO, hbk⟩ := hrel; obtain ⟨wo, rfl⟩ : ∃ x, x = wr := ⟨_, rfl⟩
   have hbw := Z08 hbk hbw3
   by_cases hlt : k < order.length
   ·obtain ⟨b, off, rfl, hb, c0, c1, c2⟩ := (hr.below hbw).plc hlt
    have hx := HI.out _ (List.getElem_mem hlt)
    have hin := HIN.out k hk
    have hnr := HNR.out k hk
    have hln := HLN.out k hk
    have HS := Lib.hid (HSN.out k hlt)
    obtain ⟨x, hxe⟩ : ∃ x, order[k] = x := ⟨_, rfl⟩
    rw [hxe] at hx c0 c1 c2 HS; obtain ⟨L, hL⟩ : ∃ L, layP l (order.take k) = L := ⟨_, rfl⟩
    rw [hL] at hin hnr hln HS hO; have hLl : L.length ≤ 16 := by omega
    clear hln; have hal : Below wo.heap.size wo (wo.alloc (.cells #[.int .i64 x.1, .bool x.2.1, .int .i64 x.2.2] 100)) := Z04 Z03 _
    have hO1 := hO.below hal
    have hnx := HNX.out _ _ _ L x ((hWa.below hbk).below hal) ((hO1.rd Zj7)) hx hin (hnr.mono (by omega)) (by omega)
    have hnew : Hid (plV (Ziq l L x) = .agg #[.int .i64 x.1, .bool x.2.1, .int .i64 (Zip l L x)]) := rfl
    rw [hnew.out] at hnx; have hun : Hid (Ziq l L x = (x.1, x.2.1, Zip l L x)) := rfl
    obtain ⟨na, hna⟩ : ∃ z, Zip l L x = z := ⟨_, rfl⟩
    rw [hna] at hnx hun; obtain ⟨n0, n1, n2⟩ := x; unfold plV at hnx; simp only at c0 c1 c2 hnx hal hO1
    obtain ⟨Ao, co, rfl⟩ := hO.shape; clear hin hnr hx hxe hL hna hnew hO; go_wp2_with fail; refine (hnx).mono ?_
    rintro e w5 ⟨rfl, hb5⟩; have hb5o : Below wo.heap.size wo w5 := Z08 hb5 hal
    have hO5 := hO1.below hb5
    have hu := Sl.oneG (enc := plc) (sz := 3) w5 100 (n0, n1, na) #[.int .i64 n0, .bool n1, .int .i64 na] rfl
    have hz5 : w3.heap.size ≤ w5.heap.size := Nat.le_trans hbk.size hb5o.size
    clear hnx hb5 hal hO1; go_wp2_with (at_builtin; refine Z3y rfl Zja Zj7 Zj9 _ _ rfl w3.heap.size _ _ _ [((n0, n1, na) : Plc)] rfl rfl (hO5.alloc _) hu (by simp [maxLen]; omega) (by simp; omega) (by simp; omega) ?_; intro v6 w6 hu6 hgr6)
    have hb6 : Below w3.heap.size w3 w6 := Z09 hgr6 (Z04 (Z08 hb5o hbk) _) (fun j e => (hO5.lt j e).1)
    go_wp2; go_roundw; case rel => exact ⟨k + 1, by omega, by go_num, by rw [HS.out, hun.out]; exact hu6, hb6⟩
    case measure => simp [intOf]; omega
   ·obtain rfl : k = order.length := by omega
    rw [List.take_length] at hO; obtain ⟨Ao, co, rfl⟩ := hO.shape; go_wp2; refine bodyPost_ret (v := .tuple #[.slice Ao (layP l order).length co, .int .i64 0]) (by simp [results, Tryz.results13, go_sem]) rfl ?_
    exact ⟨_, rfl, hO.base_mono hbw3.size, hbw⟩
 ·have t0 : (Zmg l order != 0) = true := by simp [hE]
  have HS : Hid (Z5w (Zmg l order) (layP l order) = []) := by unfold Hid Z5w; rw [if_neg hE]
  rw [HS.out]; obtain ⟨E, hEE⟩ : ∃ E, Zmg l order = E := ⟨_, rfl⟩
  rw [hEE] at hc t0 ⊢; obtain ⟨xs, ⟨A, c, rfl, _, _, _⟩, _⟩ := h; obtain ⟨B, d, rfl, _, _, hr⟩ := hp; clear hE hEE; go_enter Tryz.func13, Tryz.ntmps13
  go_wp2_with fail; refine (hc _ (by (repeat first|exact J0|assumption|(apply J1;assumption)|apply J2|apply J3|apply J4))).mono ?_
  rintro e w2 ⟨rfl, hb2⟩; go_wp2; refine bodyPost_ret (v := .tuple #[.slice none 0 0, .int .i64 E]) (by simp [results, Tryz.results13, go_sem]) rfl ?_
  exact ⟨_, rfl, Own.nil_, by (repeat first|exact J0|assumption|(apply J1;assumption)|apply J2|apply J3|apply J4)⟩
end Go.Proofs.YtpcgeihemkhkjaaGreatDoor

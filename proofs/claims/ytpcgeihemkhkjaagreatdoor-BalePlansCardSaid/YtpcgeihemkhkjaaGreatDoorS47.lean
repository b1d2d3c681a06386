/- The reference: Piece, Length, free, Next, inside, CheckPlan, Lay, walked. Conditions: the pieces have no error. -/
import Derived.Test.YtpcgeihemkhkjaaGreatDoorS46
import Derived.Test.YtpcgeihemkhkjaaGreatDoorS45
import Derived.Test.YtpcgeihemkhkjaaGreatDoorS23
import Derived.Test.YtpcgeihemkhkjaaGreatDoorS40
namespace Go.Proofs.YtpcgeihemkhkjaaGreatDoor
open Go.RowKit Go.ChangeMaps
set_option maxHeartbeats 4000000
set_option maxRecDepth 100000
attribute [local go_sem] Oper.semAt_some
def RPc (w : World) (p : Pan) (e : Ending) (w' : World) : Prop :=
 ∃ xL xR, e = .returned (.agg #[sV p.1, .int .i64 p.2.1, xL, xR]) ∧ SlE w' xL p.2.2.1 ∧ SlE w' xR p.2.2.2 ∧ Below w.heap.size w w'
theorem Zu4 {v : Value} (l : List Pan) (x : Plc) (w : World) (h : SlP w v l) (hP : PieL l) (hx : InP l x) :
  Calls Tryz.prog 84 #[v, .agg #[.int .i64 x.1, .bool x.2.1, .int .i64 x.2.2]] w (RPc w (pcP l x)) := by
 obtain ⟨xs, ⟨A, c, rfl, hlc, hcm, hr⟩, hxs⟩ := h
 obtain ⟨n, t, a⟩ := x
 obtain ⟨k, hk0, hk⟩ := hx.nat
 simp only at hk0
 subst hk0
 have hln := hxs.len
 have hkx : k < xs.length := by omega
 have hpp := hxs.get (List.getElem?_eq_getElem hkx) (List.getElem?_eq_getElem hk)
 obtain ⟨b, off, rfl, hb, e0, e1, e2, e3⟩ := hr.pan (List.getElem?_eq_getElem hkx)
 have hok := Zaw (hP _ (List.getElem_mem hk)).er
 have HPC : Hid (∀ t, pcP l ((k : Int), t, a) = if t then trnP l[k] else l[k]) := fun t => Zld hk t a
 obtain ⟨p, hpe⟩ : ∃ p, l[k] = p := ⟨_, rfl⟩
 rw [hpe] at hpp hok HPC
 obtain ⟨y, hye⟩ : ∃ y, xs[k] = y := ⟨_, rfl⟩
 rw [hye] at hpp e0 e1 e2 e3
 rw [hpp.nm] at e0
 rw [hpp.wd] at e1
 have hSL := hpp.left
 have hSR := hpp.right
 obtain ⟨vL, hvL⟩ : ∃ v, slV y.2.2.1 = v := ⟨_, rfl⟩
 obtain ⟨vR, hvR⟩ : ∃ v, slV y.2.2.2 = v := ⟨_, rfl⟩
 rw [hvL] at e2 hSL
 rw [hvR] at e3 hSR
 have cT := fun W (hb : Below w.heap.size w W) => Zia p W (hSL.below hb) (hSR.below hb) hok
 unfold sV at e0 cT
 have hkl : (k : Int) < (xs.length : Int) := by omega
 have hB := (Blk.new w 101 #[.int .i64 k, .bool t, .int .i64 a]).alloc (.cells #[.string ⟨#[]⟩, .int .i64 0, .slice none 0 0, .slice none 0 0] 86)
 have hZ := Blk.new1 w (.cells #[.int .i64 k, .bool t, .int .i64 a] 101) 86 #[.string ⟨#[]⟩, .int .i64 0, .slice none 0 0, .slice none 0 0]
 have fB := hB.facts
 clear hpp hye hpe hvL hvR hk hln hlc hcm hP
 cases t
 ·rw [HPC.out false, if_neg (by decide)]
  obtain ⟨A1, c1, rfl, _, _, _⟩ := id hSL
  obtain ⟨A2, c2, rfl, _, _, _⟩ := id hSR
  go_enter Tryz.func84, Tryz.ntmps84
  go_wp2_with (refine Z4n hZ rfl _ _ _ rfl rfl rfl (by rfl) (by kernel_rfl) (by kernel_rfl) ?_; intro w5 hZ5 hc5; have f5 := hZ5.facts)
  have hb5 : Below w.heap.size w w5 := Z9f (Z04 (Z04 Z03 _) _) hc5 (by omega)
  refine bodyPost_ret (v := .agg #[.string ⟨p.1.toArray⟩, .int .i64 p.2.1, .slice A1 p.2.2.1.length c1, .slice A2 p.2.2.2.length c2]) (by simp [results, Tryz.results84, go_sem, f5]) rfl ?_
  exact ⟨_, _, rfl, hSL.below hb5, hSR.below hb5, hb5⟩
 ·rw [HPC.out true, if_pos rfl]
  have HTR : Hid (trnP p = (p.1, (topX p true - topX p false).tdiv 2, oppL p.2.2.2, oppL p.2.2.1)) := rfl
  rw [HTR.out]; obtain ⟨tw, htw⟩ : ∃ z, (topX p true - topX p false).tdiv 2 = z := ⟨_, rfl⟩
  rw [htw] at cT ⊢; clear htw HTR; go_enter Tryz.func84, Tryz.ntmps84
  go_wp2_with fail; refine (cT _ (by (repeat first|exact J0|assumption|(apply J1;assumption)|apply J2|apply J3|apply J4))).mono ?_
  rintro e w3 ⟨xL, xR, rfl, oL, oR, hb3⟩; obtain ⟨A1, c1, rfl⟩ := oL.shape; obtain ⟨A2, c2, rfl⟩ := oR.shape; have hZ3 := hZ.below hb3
  go_wp2_with (refine Z4n hZ3 rfl _ _ _ rfl rfl rfl (by rfl) (by kernel_rfl) (by kernel_rfl) ?_; intro w5 hZ5 hc5; have f5 := hZ5.facts)
  have hb5 : Below w.heap.size w w5 := Z9f (show Below w.heap.size w w3 by (repeat first|exact J0|assumption|(apply J1;assumption)|apply J2|apply J3|apply J4)) hc5 (by omega)
  refine bodyPost_ret (v := .agg #[.string ⟨p.1.toArray⟩, .int .i64 tw, .slice A1 (oppL p.2.2.2).length c1, .slice A2 (oppL p.2.2.1).length c2]) (by simp [results, Tryz.results84, go_sem, f5]) rfl ?_
  exact ⟨_, _, rfl, ((oL.past hZ3 (by decide) hc5).rd Z8i), ((oR.past hZ3 (by decide) hc5).rd Z8i), hb5⟩
theorem rlength_any {v : Value} (l : List Pan) (plan : List Plc) (A : Option Addr) (c : Nat) (w : World) (h : SlP w v l) (hr : Rd plc 3 w A plan) (hP : PieL l) (hi : InL l plan) (hn : Zlh plan 1000000) (hpl : plan.length ≤ 100000) :
  Calls Tryz.prog 31 #[v, .slice A plan.length c] w (RV w (.int .i64 (lenP l plan))) := by
 have HPC := Lib.hid (fun x (hx : InP l x) W (hb : Below w.heap.size w W) => Zu4 l x W (h.below hb) hP hx)
 have HEX := Lib.hid (fun x (hx : InP l x) (u1 u2 : Value) W (h1 : SlE W u1 (pcP l x).2.2.1) (h2 : SlE W u2 (pcP l x).2.2.2) => Zt2 (pcP l x) W h1 h2 (hP.ok hx))
 have HEN := Lib.hid (fun x (hx : InP l x) => hP.v.ends hx)
 have HI := Lib.hid hi
 have HN := Lib.hid hn
 have HMX : Hid (∀ k, 0 ≤ Zis l (plan.take k) ∧ Zis l (plan.take k) ≤ 1004096) := fun k => by
  refine ⟨(Zko (l := l) (plan := plan.take k)).1, Zkp (by omega) fun x hx => ?_⟩
  have h1 := hP.v.ends (hi x (List.mem_of_mem_take hx))
  have h2 := hn x (List.mem_of_mem_take hx)
  omega
 have HLP : Hid (lenP l plan = (Zis l plan + 1) / 2) := rfl
 clear hP hi hn
 go_enter Tryz.func31, Tryz.ntmps31
 go_wp2
 go_loopw [5, 6] (fun s3 s4 wr => ∃ k : Nat, k ≤ plan.length ∧ s4 = .int .i64 k ∧ s3 = .int .i64 (Zis l (plan.take k)) ∧ Below w.heap.size w wr) (fun _ s _ => plan.length - (intOf s).toNat)
 case atStart => exact ⟨0, Nat.zero_le _, rfl, rfl, Z03⟩
 case round =>
  obtain ⟨k, hk, rfl, rfl, hbw⟩ := hrel; obtain ⟨wo, rfl⟩ : ∃ x, x = wr := ⟨_, rfl⟩
  have hm := HMX.out k
  by_cases hlt : k < plan.length
  ·obtain ⟨b, off, rfl, hb, e0, e1, e2⟩ := (hr.below hbw).plc hlt
   have hx := HI.out _ (List.getElem_mem hlt)
   have hnx := HN.out _ (List.getElem_mem hlt)
   have hen := HEN.out _ hx
   have HT := Lib.hid (Zu3 (l := l) hlt)
   obtain ⟨x, hxe⟩ : ∃ z, plan[k] = z := ⟨_, rfl⟩
   rw [hxe] at e0 e1 e2 hx hnx hen HT; have cP := HPC.out x hx
   have cE := HEX.out x hx
   obtain ⟨p, hp⟩ : ∃ p, pcP l x = p := ⟨_, rfl⟩
   rw [hp] at cP cE hen HT; obtain ⟨M, hM⟩ : ∃ z, Zis l (plan.take k) = z := ⟨_, rfl⟩
   rw [hM] at HT hm; rw [hM]; obtain ⟨⟨E1, E2⟩, hE⟩ : ∃ z, Zin p = z := ⟨_, rfl⟩
   rw [hE] at cE hen HT; obtain ⟨x0, x1, x2⟩ := x; simp only at e0 e1 e2 hnx hen HT cP cE
   obtain ⟨h1, h2, h3⟩ := hen; obtain ⟨n1, n2⟩ := hnx; obtain ⟨m1, m2⟩ := hm; clear hxe hp hM hE hx; go_upto_region 5 with fail; refine Z0z [0, 1, 2, 3, 4, 5, 9, 10, 11, 12, 13] [(6, false), (7, false), (8, false), (14, false)] [15, 16] (by kernel_rfl) (by kernel_rfl) (fun d _ _ _ _ h => by cases d <;> exact h) ?_
   simp only [List.map_cons, List.map_nil, List.getD_cons_zero, List.getD_cons_succ]; repeat (go_big_quiet_step (fail))
   refine wpQuiet_nil ?_; refine Z11 rfl (fun K hK => ?_); go_simp; refine (cP _ (by (repeat first|exact J0|assumption|(apply J1;assumption)|apply J2|apply J3|apply J4))).mono ?_
   rintro e w5 ⟨xL, xR, rfl, hxL, hxR, hb5⟩; refine hK _ _ (by (repeat first|exact J0|assumption|(apply J1;assumption)|apply J2|apply J3|apply J4)) ?_
   clear hK K; refine Z11 rfl (fun K hK => ?_); go_simp; refine (cE _ _ _ hxL hxR).mono ?_
   rintro e w6 ⟨rfl, hb6⟩; refine hK _ _ (by (repeat first|exact J0|assumption|(apply J1;assumption)|apply J2|apply J3|apply J4)) ?_
   clear hK K; iterate 2 (refine Z11 rfl (fun K hK => ?_); go_simp; refine hK _ _ (by (repeat first|exact J0|assumption|(apply J1;assumption)|apply J2|apply J3|apply J4)) ?_; clear hK K)
   refine Z10 ?_; go_wp2; go_roundw; case rel => exact ⟨k + 1, by omega, by go_num, by rw [HT.out], by (repeat first|exact J0|assumption|(apply J1;assumption)|apply J2|apply J3|apply J4)⟩
   case measure => simp [intOf]; omega
  ·obtain rfl : k = plan.length := by omega
   rw [List.take_length] at hm ⊢; obtain ⟨m1, m2⟩ := hm; go_wp2; go_ret; exact ⟨by rw [HLP.out]; rfl, hbw⟩
theorem Zu5 {v vL vR : Value} (l : List Pan) (plan : List Plc) (A : Option Addr) (c : Nat) (p : Pan) (a : Int) (w : World) (h : SlP w v l) (hr : Rd plc 3 w A plan) (hL : SlE w vL p.2.2.1) (hR : SlE w vR p.2.2.2) (hok : Zas p) (hP : PieL l) (hi : InL l plan) (hn : Zlh plan 1000000) (ha : -1000000 ≤ a ∧ a ≤ 1000000) (hpl : plan.length ≤ 100000) :
  Calls Tryz.prog 83 #[v, .slice A plan.length c, .agg #[sV p.1, .int .i64 p.2.1, vL, vR], .int .i64 a] w (RV w (.bool (freB l plan (Z6y p) a))) := by
 have HPC := Lib.hid (fun x (hx : InP l x) W (hb : Below w.heap.size w W) => Zu4 l x W (h.below hb) hP hx)
 have HAP := Lib.hid (fun x (hx : InP l x) (hxn : -1000000 ≤ x.2.2 ∧ x.2.2 ≤ 1000000) (u1 u2 : Value) W (hb : Below w.heap.size w W) (h1 : SlE W u1 (pcP l x).2.2.1) (h2 : SlE W u2 (pcP l x).2.2.2) => Zsu (pcP l x) p x.2.2 a W h1 h2 (hL.below hb) (hR.below hb) (hP.ok hx) hok hxn ha)
 have HI := Lib.hid hi
 have HN := Lib.hid hn
 have HBD : Hid (∀ (k : Nat) (hk : k < plan.length), Zsg (stP l plan[k]) plan[k].2.2 (Z6y p) a = false → freB l plan (Z6y p) a = false) := fun k hk z => Zu2 hk z
 have HST : Hid (∀ (k : Nat) (hk : k < plan.length), freB l (plan.take (k + 1)) (Z6y p) a = (freB l (plan.take k) (Z6y p) a && Zsg (stP l plan[k]) plan[k].2.2 (Z6y p) a)) := fun k hk => Zu1 hk
 have HFL : Hid (freB l (plan.take plan.length) (Z6y p) a = freB l plan (Z6y p) a) := by unfold Hid; rw [List.take_length]
 have H0 : Hid (freB l (plan.take 0) (Z6y p) a = true) := rfl
 have hap := HAP.out
 obtain ⟨AL, cL, rfl, _, _, _⟩ := hL
 obtain ⟨AR, cR, rfl, _, _, _⟩ := hR
 have hB := Blk.new w 86 #[.string ⟨p.1.toArray⟩, .int .i64 p.2.1, .slice AL p.2.2.1.length cL, .slice AR p.2.2.2.length cR]
 unfold sV at hap ⊢
 have HAP2 := Lib.hid hap
 clear hP hi hn hok hap HAP
 go_enter Tryz.func83, Tryz.ntmps83
 go_wp2
 go_loopw [9] (fun s wr => ∃ k : Nat, k ≤ plan.length ∧ s = .int .i64 k ∧ Hid (freB l (plan.take k) (Z6y p) a = true) ∧ Below (w.alloc (.cells #[.string ⟨p.1.toArray⟩, .int .i64 p.2.1, .slice AL p.2.2.1.length cL, .slice AR p.2.2.2.length cR] 86)).heap.size (w.alloc (.cells #[.string ⟨p.1.toArray⟩, .int .i64 p.2.1, .slice AL p.2.2.1.length cL, .slice AR p.2.2.2.length cR] 86)) wr) (fun s _ => plan.length - (intOf s).toNat)
 case atStart => exact ⟨0, Nat.zero_le _, rfl, H0, Z03⟩
 case round =>
  obtain ⟨k, hk, rfl, HK, hbo⟩ := hrel; obtain ⟨wo, rfl⟩ : ∃ x, x = wr := ⟨_, rfl⟩
  have hbw : Below w.heap.size w wo := Z08 hbo (Z04 Z03 _)
  by_cases hlt : k < plan.length
  ·obtain ⟨b, off, rfl, hb, e0, e1, e2⟩ := (hr.below hbw).plc hlt
   have hx := HI.out _ (List.getElem_mem hlt)
   have hnx := HN.out _ (List.getElem_mem hlt)
   have hbd := HBD.out k hlt
   have hst := HST.out k hlt
   obtain ⟨x, hxe⟩ : ∃ z, plan[k] = z := ⟨_, rfl⟩
   rw [hxe] at e0 e1 e2 hx hnx hbd hst; have cP := HPC.out x hx
   have cA := HAP2.out x hx hnx
   change Zsg (Z6y (pcP l x)) x.2.2 (Z6y p) a = false → _ at hbd
   change _ = (_ && Zsg (Z6y (pcP l x)) x.2.2 (Z6y p) a) at hst
   obtain ⟨q, hq⟩ : ∃ q, Zsg (Z6y (pcP l x)) x.2.2 (Z6y p) a = q := ⟨_, rfl⟩
   rw [hq] at cA hbd hst; obtain ⟨y, hy⟩ : ∃ y, pcP l x = y := ⟨_, rfl⟩
   rw [hy] at cP cA; obtain ⟨x0, x1, x2⟩ := x; simp only at e0 e1 e2 cP cA
   have HBd := Lib.hid hbd
   have HSt := Lib.hid hst
   have fB := (hB.below hbo).facts
   unfold RPc sV at cP; clear hxe hq hy hx hnx hbd hst; go_upto_region 4 with fail; refine Z0z [0, 1, 2, 3, 4, 6, 7, 8, 9, 10, 11, 12] [(5, false)] [13, 14] (by kernel_rfl) (by kernel_rfl) (fun d _ _ _ _ h => by cases d <;> exact h) ?_
   simp only [List.map_cons, List.map_nil, List.getD_cons_zero, List.getD_cons_succ]; repeat (go_big_quiet_step (fail))
   refine wpQuiet_nil ?_; refine Z11 rfl (fun K hK => ?_); go_simp; refine (cP _ (by (repeat first|exact J0|assumption|(apply J1;assumption)|apply J2|apply J3|apply J4))).mono ?_
   rintro e w5 ⟨xL, xR, rfl, hxL, hxR, hb5⟩; refine hK _ _ (by (repeat first|exact J0|assumption|(apply J1;assumption)|apply J2|apply J3|apply J4)) ?_
   clear hK K; refine Z10 ?_; go_wp2_with fail; refine (cA _ _ _ (by (repeat first|exact J0|assumption|(apply J1;assumption)|apply J2|apply J3|apply J4)) hxL hxR).mono ?_
   rintro e w6 ⟨rfl, hb6⟩; cases q
   ·have HE : Hid (freB l plan (Z6y p) a = false) := HBd.out rfl
    go_wp2; go_ret; exact ⟨by rw [HE.out]; rfl, by (repeat first|exact J0|assumption|(apply J1;assumption)|apply J2|apply J3|apply J4)⟩
   ·have HE : Hid (freB l (plan.take (k + 1)) (Z6y p) a = true) := by unfold Hid; rw [HSt.out, HK.out]; rfl
    go_wp2; go_roundw; case rel => exact ⟨k + 1, by omega, by go_num, HE, by (repeat first|exact J0|assumption|(apply J1;assumption)|apply J2|apply J3|apply J4)⟩
    case measure => simp [intOf]; omega
  ·obtain rfl : k = plan.length := by omega
   have HE : Hid (freB l plan (Z6y p) a = true) := HFL.out.symm.trans HK.out
   go_wp2; go_ret; exact ⟨by rw [HE.out]; rfl, hbw⟩
theorem Zu6 {v : Value} (l : List Pan) (plan : List Plc) (A : Option Addr) (c : Nat) (x : Plc) (w : World) (h : SlP w v l) (hr : Rd plc 3 w A plan) (hP : PieL l) (hx : InP l x) (hi : InL l plan) (hn : Zlh plan 700000) (hE : EvnP plan) (hpl : plan.length ≤ 100000) :
  Calls Tryz.prog 87 #[v, .slice A plan.length c, .agg #[.int .i64 x.1, .bool x.2.1, .int .i64 x.2.2]] w (RV w (.agg #[.int .i64 x.1, .bool x.2.1, .int .i64 (Zip l plan x)])) := by
 have cP := fun W (hb : Below w.heap.size w W) => Zu4 l x W (h.below hb) hP hx
 have cE := fun (u1 u2 : Value) W (h1 : SlE W u1 (pcP l x).2.2.1) (h2 : SlE W u2 (pcP l x).2.2.2) => Zt2 (pcP l x) W h1 h2 (hP.ok hx)
 have HFR := Lib.hid (fun (a : Int) (ha : -1000000 ≤ a ∧ a ≤ 1000000) (u1 u2 : Value) W (hb : Below w.heap.size w W) (h1 : SlE W u1 (pcP l x).2.2.1) (h2 : SlE W u2 (pcP l x).2.2.2) => Zu5 l plan A c (pcP l x) a W (h.below hb) (hr.below hb) h1 h2 (hP.ok hx) hP hi (fun o ho => by have := hn o ho; omega) ha hpl)
 have HGO := Lib.hid (fun a => Ztz (a := a) hP.v hi hx hE)
 have HST := Lib.hid (fun a => Zu0 (a := a) hP.v hi hx hE)
 have hen := hP.v.ends hx
 have hnr : -5000 ≤ Zip l plan x ∧ Zip l plan x ≤ 900003 := by
  have := Zlj hP hx hi (B := 700000) (by omega) hn plan.length (Nat.le_refl _)
  unfold nxF at this; rw [List.take_length] at this; exact this
 have hst := Zj3 (l := l) (plan := plan) (x := x)
 obtain ⟨T, hT⟩ : ∃ T, Zip l plan x = T := ⟨_, rfl⟩
 rw [hT] at HGO HST hnr hst ⊢
 obtain ⟨p, hp⟩ : ∃ p, pcP l x = p := ⟨_, rfl⟩
 obtain ⟨F, hF⟩ : ∃ F, freB l plan (stP l x) = F := ⟨_, rfl⟩
 rw [hF] at HGO HST
 have hF2 : freB l plan (Z6y (pcP l x)) = F := hF
 rw [hF2] at HFR
 rw [hp] at cP cE HFR HGO HST hen hst
 obtain ⟨⟨E1, E2⟩, hEE⟩ : ∃ E, Zin p = E := ⟨_, rfl⟩
 rw [hEE] at cE HGO HST hen hst
 obtain ⟨x0, x1, x2⟩ := x
 simp only at cP cE hst HGO HST hen ⊢
 obtain ⟨n1, n2⟩ := hnr
 obtain ⟨g1, g2, g3⟩ := hen
 have hB := (Blk.new w 101 #[.int .i64 x0, .bool x1, .int .i64 x2]).alloc (.cells #[.int .i64 0, .bool false, .int .i64 0] 101)
 have hZ := Blk.new1 w (.cells #[.int .i64 x0, .bool x1, .int .i64 x2] 101) 101 #[.int .i64 0, .bool false, .int .i64 0]
 have fB := hB.facts
 unfold RPc sV at cP
 unfold sV at cE
 have hfr := HFR.out
 unfold sV at hfr
 have HFR2 := Lib.hid hfr
 clear hT hp hF hF2 hEE hP hx hi hn hE hfr HFR
 go_enter Tryz.func87, Tryz.ntmps87
 go_wp2_with fail
 refine (cP _ (by (repeat first|exact J0|assumption|(apply J1;assumption)|apply J2|apply J3|apply J4))).mono ?_
 rintro e w3 ⟨xL, xR, rfl, hxL, hxR, hb3⟩
 obtain ⟨A1, c1, hv1, _, _, _⟩ := id hxL
 obtain ⟨A2, c2, hv2, _, _, _⟩ := id hxR
 subst hv1 hv2
 have hB3 := hB.below hb3
 have hZ3 := hZ.below hb3
 have hbw3 : Below w.heap.size w w3 := by (repeat first|exact J0|assumption|(apply J1;assumption)|apply J2|apply J3|apply J4)
 clear hb3 hB hZ fB
 have hX := Blk.new w3 86 #[.string ⟨p.1.toArray⟩, .int .i64 p.2.1, .slice A1 p.2.2.1.length c1, .slice A2 p.2.2.2.length c2]
 go_upto_region 2 with fail
 obtain ⟨w4, hw4⟩ : ∃ X, w3.alloc (.cells #[.string ⟨p.1.toArray⟩, .int .i64 p.2.1, .slice A1 p.2.2.1.length c1, .slice A2 p.2.2.2.length c2] 86) = X := ⟨_, rfl⟩
 have hbw4 : Below w3.heap.size w3 w4 := by rw [← hw4]; exact Z04 Z03 _
 rw [hw4] at hX ⊢
 clear hw4
 have fhX := hX.facts
 have hxL4 := hxL.below hbw4
 have hxR4 := hxR.below hbw4
 go_wp2_with fail
 refine (cE _ _ _ hxL4 hxR4).mono ?_
 rintro e w5 ⟨rfl, hb5⟩
 have hb35 : Below w3.heap.size w3 w5 := Z08 hb5 hbw4
 have hl5 := hxL4.below hb5
 have hr5 := hxR4.below hb5
 have hX5 := hX.below hb5
 have hB5 := hB3.below hb35
 have hZ5 := hZ3.below hb35
 have hbw5 := Z08 hb35 hbw3
 clear hb5 hb35 hX fhX hB3 hZ3 hxL hxR hxL4 hxR4 hbw3 hbw4
 go_wp2
 go_loopw [8] (fun s wr => ∃ a : Int, s = .int .i64 a ∧ -E1 ≤ a ∧ a ≤ T ∧ Below w5.heap.size w5 wr) (fun s _ => (T - intOf s).toNat)
 case atStart => exact ⟨_, rfl, by omega, by omega, Z03⟩
 case round =>
  obtain ⟨a, rfl, ha0, haT, hbk⟩ := hrel; obtain ⟨wo, rfl⟩ : ∃ x, x = wr := ⟨_, rfl⟩
  have hgo := HGO.out a ha0 haT
  have hstp := HST.out a ha0 haT
  have fX6 := (hX5.below hbk).facts
  by_cases he : a % 2 = 0
  ·have t1 : (a.tmod 2 == 0) = true := by rw [Zt3 he]; rfl
   have t2 : (a.tmod 2 != 0) = false := by rw [Zt3 he]; rfl
   have cF := HFR2.out a ⟨by omega, by omega⟩
   obtain ⟨q, hq⟩ : ∃ q, F a = q := ⟨_, rfl⟩
   rw [hq] at cF hgo hstp; have HGo : Hid (q = false → a + 1 ≤ T) := fun h => hgo (.inr h)
   have HSt : Hid (q = true → a = T) := fun h => hstp he h
   clear hq hgo hstp he; go_wp2_with fail; refine (cF _ _ _ (Z08 hbk hbw5) (hl5.below hbk) (hr5.below hbk)).mono ?_
   rintro e w6 ⟨rfl, hb6⟩; cases q
   ·have h1 := HGo.out rfl
    go_wp2; go_roundw; case rel => exact ⟨a + 1, by go_num, by omega, h1, Z08 hb6 hbk⟩
    case measure => simp [intOf]; omega
   ·have h1 := Lib.hid (HSt.out rfl)
    have hb56 := Z08 hb6 hbk
    have fB6 := (hB5.below hb56).facts
    go_wp2_with (refine Z4n (hZ5.below hb56) rfl _ _ _ rfl rfl rfl (by rfl) (by kernel_rfl) (by kernel_rfl) ?_; intro w7 hZ7 hc7; have f7 := hZ7.facts)
    refine bodyPost_ret (v := .agg #[.int .i64 x0, .bool x1, .int .i64 a]) (by simp [results, Tryz.results87, go_sem, f7]) rfl ?_
    exact ⟨by rw [h1.out], Z9f (Z08 hb56 hbw5) hc7 (by omega)⟩
  ·have t1 : (a.tmod 2 == 0) = false := beq_false_of_ne (Zt4 he)
   have t2 : (a.tmod 2 != 0) = true := by simpa using Zt4 he
   have h1 := hgo (.inl he)
   clear hgo hstp he; go_wp2; go_roundw; case rel => exact ⟨a + 1, by go_num, by omega, h1, hbk⟩
   case measure => simp [intOf]; omega
theorem Zu7 {v : Value} (b : Bal) (l : List Pan) (x : Plc) (w : World) (h : SlP w v l) (hP : PieL l) (hx : InP l x) (hxn : -1000000 ≤ x.2.2 ∧ x.2.2 ≤ 1000000) (hb : (-1000000 ≤ b.2.1 ∧ b.2.1 ≤ 1000000) ∧ -1000000 ≤ b.2.2 ∧ b.2.2 ≤ 1000000) :
  Calls Tryz.prog 82 #[.agg #[sV b.1, .int .i64 b.2.1, .int .i64 b.2.2], v, .agg #[.int .i64 x.1, .bool x.2.1, .int .i64 x.2.2]] w (RV w (.bool (insR b l x))) := by
 have cP := fun W (hb : Below w.heap.size w W) => Zu4 l x W (h.below hb) hP hx
 have cE := fun (u1 u2 : Value) W (h1 : SlE W u1 (pcP l x).2.2.1) (h2 : SlE W u2 (pcP l x).2.2.2) => Zt2 (pcP l x) W h1 h2 (hP.ok hx)
 have cH := fun (u1 u2 : Value) W (h1 : SlE W u1 (pcP l x).2.2.1) => Zcr (vL := u1) (vR := u2) (pcP l x) W h1 (hP.ok hx).left
 have hen := hP.v.ends hx
 have hhi := (hP.ok hx).high
 have HI : Hid (insR b l x = (decide (Z35 (pcP l x) ≤ b.2.1) && (decide (0 ≤ (Zin (pcP l x)).1 + x.2.2) && decide ((Zin (pcP l x)).2 + x.2.2 ≤ 2 * b.2.2)))) := rfl
 obtain ⟨R, hR⟩ : ∃ R, insR b l x = R := ⟨_, rfl⟩
 rw [hR] at HI ⊢
 obtain ⟨p, hp⟩ : ∃ p, pcP l x = p := ⟨_, rfl⟩
 rw [hp] at cP cE cH hen hhi HI
 obtain ⟨⟨E1, E2⟩, hEE⟩ : ∃ E, Zin p = E := ⟨_, rfl⟩
 rw [hEE] at cE hen HI
 obtain ⟨H, hH⟩ : ∃ H, Z35 p = H := ⟨_, rfl⟩
 rw [hH] at cH hhi HI
 obtain ⟨x0, x1, x2⟩ := x
 obtain ⟨nm, rw_, ln⟩ := b
 simp only at cP cE hen HI hxn hb ⊢
 unfold RPc at cP
 unfold sV at cP cE cH ⊢
 obtain ⟨g1, g2, g3⟩ := hen
 obtain ⟨n1, n2⟩ := hxn
 obtain ⟨⟨b1, b2⟩, b3, b4⟩ := hb
 have hB := (Blk.new w 48 #[.string ⟨nm.toArray⟩, .int .i64 rw_, .int .i64 ln]).alloc (.cells #[.int .i64 x0, .bool x1, .int .i64 x2] 101)
 have hX := Blk.new1 w (.cells #[.string ⟨nm.toArray⟩, .int .i64 rw_, .int .i64 ln] 48) 101 #[.int .i64 x0, .bool x1, .int .i64 x2]
 have fB := hB.facts
 have fX := hX.facts
 clear hP hx hR hp hEE hH
 go_enter Tryz.func82, Tryz.ntmps82
 go_wp2_with fail
 refine (cP _ (by (repeat first|exact J0|assumption|(apply J1;assumption)|apply J2|apply J3|apply J4))).mono ?_
 rintro e w3 ⟨xL, xR, rfl, hxL, hxR, hb3⟩
 obtain ⟨A1, c1, hv1, _, _, _⟩ := id hxL
 obtain ⟨A2, c2, hv2, _, _, _⟩ := id hxR
 subst hv1 hv2
 have hY := Blk.new w3 86 #[.string ⟨p.1.toArray⟩, .int .i64 p.2.1, .slice A1 p.2.2.1.length c1, .slice A2 p.2.2.2.length c2]
 go_upto_region 2 with fail
 obtain ⟨w4, hw4⟩ : ∃ X, w3.alloc (.cells #[.string ⟨p.1.toArray⟩, .int .i64 p.2.1, .slice A1 p.2.2.1.length c1, .slice A2 p.2.2.2.length c2] 86) = X := ⟨_, rfl⟩
 have hbw4 : Below w3.heap.size w3 w4 := by rw [← hw4]; exact Z04 Z03 _
 rw [hw4] at hY ⊢
 clear hw4
 have fhY := hY.facts
 have hxL4 := hxL.below hbw4
 have hxR4 := hxR.below hbw4
 go_wp2_with fail
 refine (cE _ _ _ hxL4 hxR4).mono ?_
 rintro e w5 ⟨rfl, hb5⟩
 have hE := Blk.new w5 119 #[.int .i64 E1, .int .i64 E2]
 go_upto_region 3 with fail
 obtain ⟨w6, hw6⟩ : ∃ X, w5.alloc (.cells #[.int .i64 E1, .int .i64 E2] 119) = X := ⟨_, rfl⟩
 have hbw6 : Below w5.heap.size w5 w6 := by rw [← hw6]; exact Z04 Z03 _
 rw [hw6] at hE ⊢
 clear hw6
 have fhE := hE.facts
 have hb46 : Below w4.heap.size w4 w6 := Z08 hbw6 hb5
 have hb36 : Below w3.heap.size w3 w6 := Z08 hb46 hbw4
 have hY6 := hY.below hb46
 have hB6 := (hB.below hb3).below hb36
 have hX6 := (hX.below hb3).below hb36
 have hL6 := hxL4.below hb46
 have hbW6 : Below w.heap.size w w6 := Z08 hb36 (by (repeat first|exact J0|assumption|(apply J1;assumption)|apply J2|apply J3|apply J4))
 have fY6 := hY6.facts
 have fB6 := hB6.facts
 have fX6 := hX6.facts
 clear hb3 hb5 hbw4 hbw6 hY fhY hxL hxR hxL4 hxR4 hB hX fB fX hb46 hb36
 have m1 : IntKind.i64.wrap (E1 + x2) = E1 + x2 := IntWalk.i64_in _ (by omega)
 have m2 : IntKind.i64.wrap (E2 + x2) = E2 + x2 := IntWalk.i64_in _ (by omega)
 have m3 : IntKind.i64.wrap (2 * ln) = 2 * ln := IntWalk.i64_in _ (by omega)
 by_cases q1 : H ≤ rw_
 ·have t1 : (H ≤ rw_) = True := eq_true q1
  by_cases q2 : 0 ≤ E1 + x2
  ·have t2 : (0 ≤ E1 + x2) = True := eq_true q2
   by_cases q3 : E2 + x2 ≤ 2 * ln
   ·have t3 : (E2 + x2 ≤ 2 * ln) = True := eq_true q3
    have HE : Hid (R = true) := by unfold Hid; rw [HI.out, decide_eq_true q1, decide_eq_true q2, decide_eq_true q3]; rfl
    clear q1 q2 q3 HI; refine Z0z [0, 2, 3] [(1, false), (4, false), (5, false), (6, true), (7, true), (8, false), (9, false), (10, false), (11, false), (12, false), (13, false), (14, true), (15, true), (16, true), (17, true), (18, true), (19, false), (20, false), (21, false)] [22, 23, 24] (by kernel_rfl) (by kernel_rfl) (fun d _ _ _ _ h => by cases d <;> exact h) ?_
    simp only [List.map_cons, List.map_nil, List.getD_cons_zero, List.getD_cons_succ]; repeat (go_big_quiet_step (fail))
    refine wpQuiet_nil ?_; refine Z11 rfl (fun K hK => ?_); go_simp; refine (cH _ _ _ (hL6.below (by (repeat first|exact J0|assumption|(apply J1;assumption)|apply J2|apply J3|apply J4)))).mono ?_
    rintro e w7 ⟨rfl, hb7⟩; refine hK _ _ (by (repeat first|exact J0|assumption|(apply J1;assumption)|apply J2|apply J3|apply J4)) ?_
    clear hK K; have hB6_w7 := hB6.below (show Below _ _ w7 by (repeat first|exact J0|assumption|(apply J1;assumption)|apply J2|apply J3|apply J4))
    have fhB6_w7 := hB6_w7.facts
    have hX6_w7 := hX6.below (show Below _ _ w7 by (repeat first|exact J0|assumption|(apply J1;assumption)|apply J2|apply J3|apply J4))
    have fhX6_w7 := hX6_w7.facts
    have hE_w7 := hE.below (show Below _ _ w7 by (repeat first|exact J0|assumption|(apply J1;assumption)|apply J2|apply J3|apply J4))
    have fhE_w7 := hE_w7.facts
    iterate 2 (refine Z11 rfl (fun K hK => ?_); go_simp; refine hK _ _ (by (repeat first|exact J0|assumption|(apply J1;assumption)|apply J2|apply J3|apply J4)) ?_; clear hK K)
    iterate 2 (refine Z14 rfl ?_; intro K hK; go_big_quiet_op; go_big_quiet_on)
    iterate 6 (refine Z11 rfl (fun K hK => ?_); go_simp; refine hK _ _ (by (repeat first|exact J0|assumption|(apply J1;assumption)|apply J2|apply J3|apply J4)) ?_; clear hK K)
    iterate 5 (refine Z14 rfl ?_; intro K hK; go_big_quiet_op; go_big_quiet_on)
    iterate 3 (refine Z11 rfl (fun K hK => ?_); go_simp; refine hK _ _ (by (repeat first|exact J0|assumption|(apply J1;assumption)|apply J2|apply J3|apply J4)) ?_; clear hK K)
    refine Z10 ?_; go_wp2; go_ret; exact ⟨by rw [HE.out]; rfl, Z08 (show Below w6.heap.size w6 w7 by (repeat first|exact J0|assumption|(apply J1;assumption)|apply J2|apply J3|apply J4)) hbW6⟩
   ·have t3 : (E2 + x2 ≤ 2 * ln) = False := eq_false q3
    have HE : Hid (R = false) := by unfold Hid; rw [HI.out, decide_eq_false q3]; simp
    clear q1 q2 q3 HI; refine Z0z [0, 2, 3] [(1, false), (4, false), (5, false), (6, true), (7, true), (8, false), (9, false), (10, false), (11, false), (12, false), (13, false), (14, true), (15, true), (16, true), (17, true), (18, true), (19, false), (20, false), (21, false)] [22, 23, 24] (by kernel_rfl) (by kernel_rfl) (fun d _ _ _ _ h => by cases d <;> exact h) ?_
    simp only [List.map_cons, List.map_nil, List.getD_cons_zero, List.getD_cons_succ]; repeat (go_big_quiet_step (fail))
    refine wpQuiet_nil ?_; refine Z11 rfl (fun K hK => ?_); go_simp; refine (cH _ _ _ (hL6.below (by (repeat first|exact J0|assumption|(apply J1;assumption)|apply J2|apply J3|apply J4)))).mono ?_
    rintro e w7 ⟨rfl, hb7⟩; refine hK _ _ (by (repeat first|exact J0|assumption|(apply J1;assumption)|apply J2|apply J3|apply J4)) ?_
    clear hK K; have hB6_w7 := hB6.below (show Below _ _ w7 by (repeat first|exact J0|assumption|(apply J1;assumption)|apply J2|apply J3|apply J4))
    have fhB6_w7 := hB6_w7.facts
    have hX6_w7 := hX6.below (show Below _ _ w7 by (repeat first|exact J0|assumption|(apply J1;assumption)|apply J2|apply J3|apply J4))
    have fhX6_w7 := hX6_w7.facts
    have hE_w7 := hE.below (show Below _ _ w7 by (repeat first|exact J0|assumption|(apply J1;assumption)|apply J2|apply J3|apply J4))
    have fhE_w7 := hE_w7.facts
    iterate 2 (refine Z11 rfl (fun K hK => ?_); go_simp; refine hK _ _ (by (repeat first|exact J0|assumption|(apply J1;assumption)|apply J2|apply J3|apply J4)) ?_; clear hK K)
    iterate 2 (refine Z14 rfl ?_; intro K hK; go_big_quiet_op; go_big_quiet_on)
    iterate 6 (refine Z11 rfl (fun K hK => ?_); go_simp; refine hK _ _ (by (repeat first|exact J0|assumption|(apply J1;assumption)|apply J2|apply J3|apply J4)) ?_; clear hK K)
    iterate 5 (refine Z14 rfl ?_; intro K hK; go_big_quiet_op; go_big_quiet_on)
    iterate 3 (refine Z11 rfl (fun K hK => ?_); go_simp; refine hK _ _ (by (repeat first|exact J0|assumption|(apply J1;assumption)|apply J2|apply J3|apply J4)) ?_; clear hK K)
    refine Z10 ?_; go_wp2; go_ret; exact ⟨by rw [HE.out]; rfl, Z08 (show Below w6.heap.size w6 w7 by (repeat first|exact J0|assumption|(apply J1;assumption)|apply J2|apply J3|apply J4)) hbW6⟩
  ·have t2 : (0 ≤ E1 + x2) = False := eq_false q2
   have HE : Hid (R = false) := by unfold Hid; rw [HI.out, decide_eq_false q2]; simp
   clear q1 q2 HI; refine Z0z [0, 2, 3] [(1, false), (4, false), (5, false), (6, true), (7, true), (8, false), (9, false), (10, false), (11, false), (12, false), (13, false), (14, true), (15, true), (16, true), (17, true), (18, true), (19, false), (20, false), (21, false)] [22, 23, 24] (by kernel_rfl) (by kernel_rfl) (fun d _ _ _ _ h => by cases d <;> exact h) ?_
   simp only [List.map_cons, List.map_nil, List.getD_cons_zero, List.getD_cons_succ]; repeat (go_big_quiet_step (fail))
   refine wpQuiet_nil ?_; refine Z11 rfl (fun K hK => ?_); go_simp; refine (cH _ _ _ (hL6.below (by (repeat first|exact J0|assumption|(apply J1;assumption)|apply J2|apply J3|apply J4)))).mono ?_
   rintro e w7 ⟨rfl, hb7⟩; refine hK _ _ (by (repeat first|exact J0|assumption|(apply J1;assumption)|apply J2|apply J3|apply J4)) ?_
   clear hK K; have hB6_w7 := hB6.below (show Below _ _ w7 by (repeat first|exact J0|assumption|(apply J1;assumption)|apply J2|apply J3|apply J4))
   have fhB6_w7 := hB6_w7.facts
   have hX6_w7 := hX6.below (show Below _ _ w7 by (repeat first|exact J0|assumption|(apply J1;assumption)|apply J2|apply J3|apply J4))
   have fhX6_w7 := hX6_w7.facts
   have hE_w7 := hE.below (show Below _ _ w7 by (repeat first|exact J0|assumption|(apply J1;assumption)|apply J2|apply J3|apply J4))
   have fhE_w7 := hE_w7.facts
   iterate 2 (refine Z11 rfl (fun K hK => ?_); go_simp; refine hK _ _ (by (repeat first|exact J0|assumption|(apply J1;assumption)|apply J2|apply J3|apply J4)) ?_; clear hK K)
   iterate 2 (refine Z14 rfl ?_; intro K hK; go_big_quiet_op; go_big_quiet_on)
   iterate 6 (refine Z11 rfl (fun K hK => ?_); go_simp; refine hK _ _ (by (repeat first|exact J0|assumption|(apply J1;assumption)|apply J2|apply J3|apply J4)) ?_; clear hK K)
   iterate 5 (refine Z12 (by kernel_rfl) ?_; intro K hK; simp only [Act.put, List.setIfInBounds_toArray, List.set_cons_zero, List.set_cons_succ]; refine hK _ ?_; clear hK K)
   iterate 3 (refine Z13 (by kernel_rfl) ?_; intro K hK; simp only [Act.put, List.setIfInBounds_toArray, List.set_cons_zero, List.set_cons_succ]; refine hK _ ?_; clear hK K)
   refine Z10 ?_; go_wp2; go_ret; exact ⟨by rw [HE.out]; rfl, Z08 (show Below w6.heap.size w6 w7 by (repeat first|exact J0|assumption|(apply J1;assumption)|apply J2|apply J3|apply J4)) hbW6⟩
 ·have t1 : (H ≤ rw_) = False := eq_false q1
  have HE : Hid (R = false) := by unfold Hid; rw [HI.out, decide_eq_false q1]; rfl
  clear q1 HI; refine Z0z [0, 2, 3] [(1, false), (4, false), (5, false), (6, true), (7, true), (8, false), (9, false), (10, false), (11, false), (12, false), (13, false), (14, true), (15, true), (16, true), (17, true), (18, true), (19, false), (20, false), (21, false)] [22, 23, 24] (by kernel_rfl) (by kernel_rfl) (fun d _ _ _ _ h => by cases d <;> exact h) ?_
  simp only [List.map_cons, List.map_nil, List.getD_cons_zero, List.getD_cons_succ]; repeat (go_big_quiet_step (fail))
  refine wpQuiet_nil ?_; refine Z11 rfl (fun K hK => ?_); go_simp; refine (cH _ _ _ (hL6.below (by (repeat first|exact J0|assumption|(apply J1;assumption)|apply J2|apply J3|apply J4)))).mono ?_
  rintro e w7 ⟨rfl, hb7⟩; refine hK _ _ (by (repeat first|exact J0|assumption|(apply J1;assumption)|apply J2|apply J3|apply J4)) ?_
  clear hK K; have hB6_w7 := hB6.below (show Below _ _ w7 by (repeat first|exact J0|assumption|(apply J1;assumption)|apply J2|apply J3|apply J4))
  have fhB6_w7 := hB6_w7.facts
  have hX6_w7 := hX6.below (show Below _ _ w7 by (repeat first|exact J0|assumption|(apply J1;assumption)|apply J2|apply J3|apply J4))
  have fhX6_w7 := hX6_w7.facts
  have hE_w7 := hE.below (show Below _ _ w7 by (repeat first|exact J0|assumption|(apply J1;assumption)|apply J2|apply J3|apply J4))
  have fhE_w7 := hE_w7.facts
  iterate 2 (refine Z11 rfl (fun K hK => ?_); go_simp; refine hK _ _ (by (repeat first|exact J0|assumption|(apply J1;assumption)|apply J2|apply J3|apply J4)) ?_; clear hK K)
  iterate 2 (refine Z12 (by kernel_rfl) ?_; intro K hK; simp only [Act.put, List.setIfInBounds_toArray, List.set_cons_zero, List.set_cons_succ]; refine hK _ ?_; clear hK K)
  iterate 4 (refine Z13 (by kernel_rfl) ?_; intro K hK; simp only [Act.put, List.setIfInBounds_toArray, List.set_cons_zero, List.set_cons_succ]; refine hK _ ?_; clear hK K)
  iterate 2 (refine Z11 rfl (fun K hK => ?_); go_simp; refine hK _ _ (by (repeat first|exact J0|assumption|(apply J1;assumption)|apply J2|apply J3|apply J4)) ?_; clear hK K)
  iterate 5 (refine Z12 (by kernel_rfl) ?_; intro K hK; simp only [Act.put, List.setIfInBounds_toArray, List.set_cons_zero, List.set_cons_succ]; refine hK _ ?_; clear hK K)
  iterate 3 (refine Z13 (by kernel_rfl) ?_; intro K hK; simp only [Act.put, List.setIfInBounds_toArray, List.set_cons_zero, List.set_cons_succ]; refine hK _ ?_; clear hK K)
  refine Z10 ?_; go_wp2; go_ret; exact ⟨by rw [HE.out]; rfl, Z08 (show Below w6.heap.size w6 w7 by (repeat first|exact J0|assumption|(apply J1;assumption)|apply J2|apply J3|apply J4)) hbW6⟩
theorem rcheckPlan_any {v : Value} (b : Bal) (l : List Pan) (plan : List Plc) (A : Option Addr) (c : Nat) (w : World) (h : SlP w v l) (hr : Rd plc 3 w A plan) (hP : PieL l) (hi : InL l plan) (hn : Zlh plan 1000000) (hE : EvnP plan) (hb : (-1000000 ≤ b.2.1 ∧ b.2.1 ≤ 1000000) ∧ -1000000 ≤ b.2.2 ∧ b.2.2 ≤ 1000000) (hpl : plan.length ≤ 100000) (hlc : plan.length ≤ c) :
  Calls Tryz.prog 26 #[.agg #[sV b.1, .int .i64 b.2.1, .int .i64 b.2.2], v, .slice A plan.length c] w (RV w (.int .i64 (fitE b l plan))) := by
 have HIN := Lib.hid (fun x (hx : InP l x) (hxn : -1000000 ≤ x.2.2 ∧ x.2.2 ≤ 1000000) W (hb' : Below w.heap.size w W) => Zu7 b l x W (h.below hb') hP hx hxn hb)
 have HPC := Lib.hid (fun x (hx : InP l x) W (hb' : Below w.heap.size w W) => Zu4 l x W (h.below hb') hP hx)
 have HFR := Lib.hid (fun (k : Nat) x (hx : InP l x) (hxn : -1000000 ≤ x.2.2 ∧ x.2.2 ≤ 1000000) (u1 u2 : Value) W (hb' : Below w.heap.size w W) (h1 : SlE W u1 (pcP l x).2.2.1) (h2 : SlE W u2 (pcP l x).2.2.2) => Zu5 l (plan.take k) A c (pcP l x) x.2.2 W (h.below hb') ((hr.below hb').take_ k) h1 h2 (hP.ok hx) hP (fun o ho => hi o (List.mem_of_mem_take ho)) (fun o ho => hn o (List.mem_of_mem_take ho)) hxn (by rw [List.length_take]; omega))
 have HI := Lib.hid hi
 have HN := Lib.hid hn
 have HINS : Hid (∀ x, InP l x → insR b l x = !outB b l x) := fun x hx => Ztu (hP.ok hx)
 have HCRS : Hid (∀ (k : Nat) (hk : k < plan.length), freB l (plan.take k) (stP l plan[k]) plan[k].2.2 = !crsB l (plan.take k) plan[k]) := fun k hk => Ztw hP.v (fun o ho => hi o (List.mem_of_mem_take ho)) (hi _ (List.getElem_mem hk)) (fun o ho => hE o (List.mem_of_mem_take ho)) (hE _ (List.getElem_mem hk))
 have HF : Hid (∀ (k : Nat) (hk : k < plan.length), fitG b l (plan.take k) (plan.drop k) = if outB b l plan[k] = true then 32 else if crsB l (plan.take k) plan[k] = true then 16 else fitG b l (plan.take (k + 1)) (plan.drop (k + 1))) := fun k hk => Ztx hk
 have H0 : Hid (fitE b l plan = fitG b l (plan.take 0) (plan.drop 0)) := rfl
 have hin := HIN.out
 unfold sV at hin ⊢
 have HIN2 := Lib.hid hin
 have hB := Blk.new w 48 #[.string ⟨b.1.toArray⟩, .int .i64 b.2.1, .int .i64 b.2.2]
 clear hP hi hn hE hin HIN
 go_enter Tryz.func26, Tryz.ntmps26
 go_wp2
 obtain ⟨w1, hw1⟩ : ∃ X, w.alloc (.cells #[.string ⟨b.1.toArray⟩, .int .i64 b.2.1, .int .i64 b.2.2] 48) = X := ⟨_, rfl⟩
 have hb1 : Below w.heap.size w w1 := by rw [← hw1]; exact Z04 Z03 _
 rw [hw1] at hB ⊢
 clear hw1
 go_loopw [7] (fun s wr => ∃ k : Nat, k ≤ plan.length ∧ s = .int .i64 k ∧ Hid (fitE b l plan = fitG b l (plan.take k) (plan.drop k)) ∧ Below w1.heap.size w1 wr) (fun s _ => plan.length - (intOf s).toNat)
 case atStart => exact ⟨0, Nat.zero_le _, rfl, H0, Z03⟩
 case round =>
  obtain ⟨k, hk, rfl, HK, hbo⟩ := hrel; obtain ⟨wo, rfl⟩ : ∃ x, x = wr := ⟨_, rfl⟩
  have hbw := Z08 hbo hb1
  by_cases hlt : k < plan.length
  ·obtain ⟨bb, off, rfl, hbb, e0, e1, e2⟩ := (hr.below hbw).plc hlt
   have hx := HI.out _ (List.getElem_mem hlt)
   have hnx := HN.out _ (List.getElem_mem hlt)
   have hfk := HK.out.trans (HF.out k hlt)
   have hck := HCRS.out k hlt
   have hik := HINS.out _ hx
   have hlk : (plan.take k).length = k := by rw [List.length_take]; omega
   obtain ⟨x, hxe⟩ : ∃ z, plan[k] = z := ⟨_, rfl⟩
   rw [hxe] at e0 e1 e2 hx hnx hfk hck hik; have cI := HIN2.out x hx hnx
   have cP := HPC.out x hx
   have cF := HFR.out k x hx hnx
   rw [hlk] at cF; change freB l (plan.take k) (Z6y (pcP l x)) x.2.2 = _ at hck
   rw [hik] at cI; rw [hck] at cF; obtain ⟨q1, hq1⟩ : ∃ q, outB b l x = q := ⟨_, rfl⟩
   rw [hq1] at cI hfk; obtain ⟨q2, hq2⟩ : ∃ q, crsB l (plan.take k) x = q := ⟨_, rfl⟩
   rw [hq2] at cF hfk; have HFK := Lib.hid hfk
   have fB := (hB.below hbo).facts
   obtain ⟨x0, x1, x2⟩ := x; simp only at e0 e1 e2 cI cP cF
   unfold RPc sV at cP; unfold sV at cF; have hkl : (k : Int) ≤ (plan.length : Int) := by omega
   have hkc : k ≤ c := by omega
   have hkc' : (k : Int) ≤ (c : Int) := by omega
   clear hxe hx hnx hfk hck hik hq1 hq2 hlk; go_upto_region 4 with fail; refine Z0z [0, 1, 2, 3, 4, 5] [] [6, 7] (by kernel_rfl) (by kernel_rfl) (fun d _ _ _ _ h => by cases d <;> exact h) ?_
   simp only [List.map_cons, List.map_nil, List.getD_cons_zero, List.getD_cons_succ]; repeat (go_big_quiet_step (fail))
   refine wpQuiet_nil ?_; refine Z10 ?_; go_wp2_with fail; refine (cI _ (by (repeat first|exact J0|assumption|(apply J1;assumption)|apply J2|apply J3|apply J4))).mono ?_
   rintro e w5 ⟨rfl, hb5⟩; cases q1
   ·have f0 := (hb5.cell (p := ⟨bb, off + k * 3, none⟩) hbb).trans e0
    have f1 := (hb5.cell (p := ⟨bb, off + k * 3 + 1, none⟩) hbb).trans e1
    have f2 := (hb5.cell (p := ⟨bb, off + k * 3 + 2, none⟩) hbb).trans e2
    have hbb5 : bb < w5.heap.size := Nat.lt_of_lt_of_le hbb hb5.size
    go_upto_region 6 with fail; refine Z0z [0, 1, 2, 3, 4, 5, 6, 7, 8, 10, 11, 12, 13, 14] [(9, false)] [15, 16] (by kernel_rfl) (by kernel_rfl) (fun d _ _ _ _ h => by cases d <;> exact h) ?_
    simp only [List.map_cons, List.map_nil, List.getD_cons_zero, List.getD_cons_succ]; repeat (go_big_quiet_step (fail))
    refine wpQuiet_nil ?_; refine Z11 rfl (fun K hK => ?_); go_simp; refine (cP _ (by (repeat first|exact J0|assumption|(apply J1;assumption)|apply J2|apply J3|apply J4))).mono ?_
    rintro e w6 ⟨xL, xR, rfl, hxL, hxR, hb6⟩; refine hK _ _ (by (repeat first|exact J0|assumption|(apply J1;assumption)|apply J2|apply J3|apply J4)) ?_
    clear hK K; refine Z10 ?_; go_wp2_with fail; refine (cF _ _ _ (by (repeat first|exact J0|assumption|(apply J1;assumption)|apply J2|apply J3|apply J4)) hxL hxR).mono ?_
    rintro e w7 ⟨rfl, hb7⟩; cases q2
    ·have HE : Hid (fitE b l plan = fitG b l (plan.take (k + 1)) (plan.drop (k + 1))) := by unfold Hid; rw [HFK.out]; rfl
     go_wp2; go_roundw; case rel => exact ⟨k + 1, by omega, by go_num, HE, by (repeat first|exact J0|assumption|(apply J1;assumption)|apply J2|apply J3|apply J4)⟩
     case measure => simp [intOf]; omega
    ·have HE : Hid (fitE b l plan = 16) := by unfold Hid; rw [HFK.out]; rfl
     go_wp2; go_ret; exact ⟨by rw [HE.out]; rfl, by (repeat first|exact J0|assumption|(apply J1;assumption)|apply J2|apply J3|apply J4)⟩
   ·have HE : Hid (fitE b l plan = 32) := by unfold Hid; rw [HFK.out]; rfl
    go_wp2; go_ret; exact ⟨by rw [HE.out]; rfl, by (repeat first|exact J0|assumption|(apply J1;assumption)|apply J2|apply J3|apply J4)⟩
  ·obtain rfl : k = plan.length := by omega
   have HE : Hid (fitE b l plan = 0) := by unfold Hid; rw [HK.out, List.drop_length]; rfl
   go_wp2; go_ret; exact ⟨by rw [HE.out]; rfl, hbw⟩
theorem rlay_any {v : Value} (l : List Pan) (order : List Plc) (A : Option Addr) (c : Nat) (w : World) (h : SlP w v l) (hr : Rd plc 3 w A order) (hP : PieL l) (hs : Pcs l) (hi : InL l order) (hol : order.length ≤ 16) :
  Calls Tryz.prog 30 #[v, .slice A order.length c] w (RG5 plc 3 101 w (layP l order)) := by
 have HIL : Hid (∀ k, InL l (layP l (order.take k))) := fun k => Zl9 fun x hx => hi x (List.mem_of_mem_take hx)
 have HNL : Hid (∀ k, Zlh (layP l (order.take k)) 700000) := fun k x hx => by
  have := Zl8 hs (order.take k) [] (fun x hx => hi x (List.mem_of_mem_take (by simpa using hx))) (fun x hx => by cases hx) x hx
  have hl : (order.take k).length ≤ 16 := by rw [List.length_take]; omega
  simp only [List.length_nil] at this; omega
 have HNX := Lib.hid (fun (k : Nat) (x : Plc) (hx : InP l x) (A' : Option Addr) (c' : Nat) W (hb : Below w.heap.size w W) (h1 : Rd plc 3 W A' (layP l (order.take k))) => Zu6 l (layP l (order.take k)) A' c' x W (h.below hb) h1 hP hx (HIL.out k) (HNL.out k) (Zj4 l _) (by rw [Zks, List.length_take]; omega))
 have HLL : Hid (∀ k, (layP l (order.take k)).length ≤ 16) := fun k => by rw [Zks, List.length_take]; omega
 have HI := Lib.hid hi
 have HSN : Hid (∀ (k : Nat) (hk : k < order.length), layP l (order.take (k + 1)) = layP l (order.take k) ++ [Ziq l (layP l (order.take k)) order[k]]) := fun k hk => Zir l hk
 clear hP hs hi
 go_enter Tryz.func30, Tryz.ntmps30
 go_wp2
 go_loopw [5, 6] (fun o i wr => ∃ k : Nat, k ≤ order.length ∧ i = .int .i64 k ∧ Own plc 3 w.heap.size 101 wr o (layP l (order.take k)) ∧ Below w.heap.size w wr) (fun _ i _ => order.length - (intOf i).toNat)
 case atStart => exact ⟨0, Nat.zero_le _, rfl, Own.nil_, Z03⟩
 case round =>
  obtain ⟨k, hk, rfl, hO, hbw⟩ := hrel; obtain ⟨wo, rfl⟩ : ∃ x, x = wr := ⟨_, rfl⟩
  by_cases hlt : k < order.length
  ·obtain ⟨b, off, rfl, hb, e0, e1, e2⟩ := (hr.below hbw).plc hlt
   have hx := HI.out _ (List.getElem_mem hlt)
   have hsn := HSN.out k hlt
   have hll := HLL.out k
   obtain ⟨x, hxe⟩ : ∃ z, order[k] = z := ⟨_, rfl⟩
   rw [hxe] at e0 e1 e2 hx hsn; have cN := HNX.out k x hx
   unfold Ziq at hsn; obtain ⟨N, hN⟩ : ∃ N, Zip l (layP l (order.take k)) x = N := ⟨_, rfl⟩
   rw [hN] at cN hsn; obtain ⟨P, hPe⟩ : ∃ P, layP l (order.take k) = P := ⟨_, rfl⟩
   rw [hPe] at cN hsn hll hO; obtain ⟨x0, x1, x2⟩ := x; simp only at e0 e1 e2 cN hsn
   have HS := Lib.hid hsn
   clear hxe hx hsn hN hPe; obtain ⟨A4, c4, rfl⟩ := hO.shape; obtain ⟨_, _, he4, _, _, r4⟩ := hO.rd Zj7
   obtain ⟨rfl, rfl⟩ : A4 = _ ∧ c4 = _ := by simpa using he4
   go_wp2_with fail; refine (cN _ _ _ hbw r4).mono ?_
   rintro e w5 ⟨rfl, hb5⟩; have hO5 := hO.below hb5
   have hbw5 : Below w.heap.size w w5 := Z08 hb5 hbw
   have hz5 := hbw5.size
   have hu := Sl.oneG (enc := plc) (sz := 3) w5 101 (x0, x1, N) #[.int .i64 x0, .bool x1, .int .i64 N] rfl
   go_wp2_with (at_builtin; refine Z3y rfl Zre Zj7 Zj9 _ _ rfl w.heap.size _ _ _ [(x0, x1, N)] rfl rfl (hO5.alloc _) hu (by simp [maxLen]; omega) (by simp; omega) (by simp; omega) ?_; intro v9 w9 hO9 hg9)
   have hb9 : Below w.heap.size w w9 := Z09 hg9 (Z04 hbw5 _) (fun j e => (hO5.lt j e).1)
   go_wp2; go_roundw; case rel => exact ⟨k + 1, by omega, by go_num, by rw [HS.out]; exact hO9, hb9⟩
   case measure => simp [intOf]; omega
  ·obtain rfl : k = order.length := by omega
   rw [List.take_length] at hO; go_wp2; go_ret; exact ⟨_, rfl, hO, hbw⟩
end Go.Proofs.YtpcgeihemkhkjaaGreatDoor

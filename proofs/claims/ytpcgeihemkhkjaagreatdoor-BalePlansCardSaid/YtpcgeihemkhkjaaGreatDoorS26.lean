/- Both ways of a piece, walked. Conditions: the piece has no error. -/
import Derived.Test.YtpcgeihemkhkjaaGreatDoorS25
import Derived.Test.YtpcgeihemkhkjaaGreatDoorS20
import Derived.Test.YtpcgeihemkhkjaaGreatDoorS22
import Derived.Test.YtpcgeihemkhkjaaGreatDoorS23
import Derived.Test.YtpcgeihemkhkjaaGreatDoorS21
namespace Go.Proofs.YtpcgeihemkhkjaaGreatDoor
open Go.RowKit Go.ChangeMaps
set_option maxHeartbeats 4000000
set_option maxRecDepth 100000
attribute [local go_sem] Oper.semAt_some
def RPC (w : World) (p : Pan) (e : Ending) (w' : World) : Prop := ∃ x : PcV, e = .returned (.agg #[slV x.1.1, .int .i64 x.1.2.1, .int .i64 x.1.2.2.1, slV x.1.2.2.2, slV x.2.1, .int .i64 x.2.2.1, .int .i64 x.2.2.2.1, slV x.2.2.2.2]) ∧ PcO w.heap.size w' x p ∧ Below w.heap.size w w'
theorem Zkb {vL vR : Value} (p : Pan) (w : World) (hnm : p.1.length ≤ 1000000) (hL : SlE w vL p.2.2.1) (hR : SlE w vR p.2.2.2) (hE : panE p = 0) (hN : Zbm p = 0) (hT : panE (trnP p) = 0) (hM : Zbm (trnP p) = 0) :
  Calls Tryz.prog 61 #[.agg #[sV p.1, .int .i64 p.2.1, vL, vR]] w (RPC w p) := by
 have ht := fun W (hb : Below w.heap.size w W) => Zge p W hnm (hL.below hb) (hR.below hb)
 have HQ : pcR (panE p) (turQ p) = trnP p ∧ pcE (panE p) (turQ p) = 0 := by
  have e : pcE (panE p) (turQ p) = 0 := by unfold pcE; rw [if_neg (by simp [hE])]; exact hT
  exact ⟨by unfold pcR; rw [e, if_pos rfl]; rfl, e⟩
 rw [HQ.1, HQ.2] at ht
 have hs1 := fun W (hb : Below w.heap.size w W) => Zka p W hnm (hL.below hb) (hR.below hb) hE hN
 have hs2 := fun W vL vR hL hR => Zka (vL := vL) (vR := vR) (trnP p) W (show (trnP p).1.length ≤ 1000000 from hnm) hL hR hT hM
 have HP : Hid (∀ (b : Nat) (x : PcV) W, WyO b W x.1 p → WyO b W x.2 (trnP p) → PcO b W x p) := fun _ _ _ h1 h2 => ⟨h1, h2⟩
 have HS2 := Lib.hid hs2
 obtain ⟨T, hTT⟩ : ∃ T, trnP p = T := ⟨_, rfl⟩
 rw [hTT] at ht HS2 HP
 obtain ⟨tn, tw, tl, tr⟩ := T
 clear hTT hs2 hE hN hT hM HQ hnm
 obtain ⟨AL, cL, rfl, _, _, _⟩ := hL
 obtain ⟨AR, cR, rfl, _, _, _⟩ := hR
 unfold sV at ht hs1 HS2 ⊢
 unfold RPN at ht
 unfold sV at ht
 simp only at ht
 have hP := (Blk.new w 97 #[.string ⟨p.1.toArray⟩, .int .i64 p.2.1, .slice AL p.2.2.1.length cL, .slice AR p.2.2.2.length cR]).alloc (.cells #[.slice none 0 0, .int .i64 0, .int .i64 0, .slice none 0 0, .slice none 0 0, .int .i64 0, .int .i64 0, .slice none 0 0] 123)
 have hZ := Blk.new1 w (.cells #[.string ⟨p.1.toArray⟩, .int .i64 p.2.1, .slice AL p.2.2.1.length cL, .slice AR p.2.2.2.length cR] 97) 123 #[.slice none 0 0, .int .i64 0, .int .i64 0, .slice none 0 0, .slice none 0 0, .int .i64 0, .int .i64 0, .slice none 0 0]
 have fhP := hP.facts
 go_enter Tryz.func61, Tryz.ntmps61
 go_wp2_with fail
 refine (ht _ (by (repeat first|exact J0|assumption|(apply J1;assumption)|apply J2|apply J3|apply J4))).mono ?_
 rintro e w2 ⟨u1, u2, rfl, hu1, hu2, hb2⟩
 replace hP := hP.below (show Below _ _ w2 by (repeat first|exact J0|assumption|(apply J1;assumption)|apply J2|apply J3|apply J4))
 replace fhP := hP.facts
 replace hZ := hZ.below (show Below _ _ w2 by (repeat first|exact J0|assumption|(apply J1;assumption)|apply J2|apply J3|apply J4))
 replace fhZ := hZ.facts
 obtain ⟨A1, c1, rfl⟩ := hu1.shape
 obtain ⟨A2, c2, rfl⟩ := hu2.shape
 have hT2 := Blk.new w2 97 #[.string ⟨tn.toArray⟩, .int .i64 tw, .slice A1 tl.length c1, .slice A2 tr.length c2]
 have hE1 := (hu1.rd Z8i).alloc (.cells #[.string ⟨tn.toArray⟩, .int .i64 tw, .slice A1 tl.length c1, .slice A2 tr.length c2] 97)
 have hE2 := (hu2.rd Z8i).alloc (.cells #[.string ⟨tn.toArray⟩, .int .i64 tw, .slice A1 tl.length c1, .slice A2 tr.length c2] 97)
 have hP3 := hP.alloc (.cells #[.string ⟨tn.toArray⟩, .int .i64 tw, .slice A1 tl.length c1, .slice A2 tr.length c2] 97)
 have hZ3 := hZ.alloc (.cells #[.string ⟨tn.toArray⟩, .int .i64 tw, .slice A1 tl.length c1, .slice A2 tr.length c2] 97)
 have hbw3 : Below w.heap.size w (w2.alloc (.cells #[.string ⟨tn.toArray⟩, .int .i64 tw, .slice A1 tl.length c1, .slice A2 tr.length c2] 97)) := by (repeat first|exact J0|assumption|(apply J1;assumption)|apply J2|apply J3|apply J4)
 go_upto_region 2 with fail
 obtain ⟨w3, hw3⟩ : ∃ X, w2.alloc (.cells #[.string ⟨tn.toArray⟩, .int .i64 tw, .slice A1 tl.length c1, .slice A2 tr.length c2] 97) = X := ⟨_, rfl⟩
 obtain ⟨gt, hgt⟩ : ∃ X, w2.heap.size = X := ⟨_, rfl⟩
 rw [hw3] at hP3 hZ3 hbw3 hE1 hE2
 rw [hw3, hgt] at hT2
 rw [hw3, hgt]
 clear hw3 hgt hP hZ fhP ht hu1 hu2 hb2
 have fhP := hP3.facts
 have fhT := hT2.facts
 have hz3 := hZ3.lt
 have hp3 := hT2.lt
 refine Z0z [0, 2] [(1, false)] [3, 4, 5] (by kernel_rfl) (by kernel_rfl) (fun d _ _ _ _ h => by cases d <;> exact h) ?_
 simp only [List.map_cons, List.map_nil, List.getD_cons_zero, List.getD_cons_succ]
 repeat (go_big_quiet_step (fail))
 refine wpQuiet_nil ?_
 refine Z11 rfl (fun K hK => ?_)
 go_simp
 refine (hs1 _ (by (repeat first|exact J0|assumption|(apply J1;assumption)|apply J2|apply J3|apply J4))).mono ?_
 rintro e w4 ⟨⟨⟨a0, a1, a2⟩, b1, b2, ⟨d0, d1, d2⟩⟩, rfl, hW4, hb4⟩
 refine hK _ _ (by (repeat first|exact J0|assumption|(apply J1;assumption)|apply J2|apply J3|apply J4)) ?_
 clear hK K
 have hT2_w4 := hT2.below (show Below _ _ w4 by (repeat first|exact J0|assumption|(apply J1;assumption)|apply J2|apply J3|apply J4))
 have fhT2_w4 := hT2_w4.facts
 refine Z10 ?_
 go_wp2_with fail
 refine (HS2.out _ _ _ (hE1.below (by (repeat first|exact J0|assumption|(apply J1;assumption)|apply J2|apply J3|apply J4))) (hE2.below (by (repeat first|exact J0|assumption|(apply J1;assumption)|apply J2|apply J3|apply J4)))).mono ?_
 rintro e w5 ⟨⟨⟨a0', a1', a2'⟩, b1', b2', ⟨d0', d1', d2'⟩⟩, rfl, hW5, hb5⟩
 simp only [slV]
 have hb35 : Below w3.heap.size w3 w5 := by (repeat first|exact J0|assumption|(apply J1;assumption)|apply J2|apply J3|apply J4)
 have hZ5 := hZ3.below hb35
 have hW45 := hW4.below (show Below w4.heap.size w4 w5 by (repeat first|exact J0|assumption|(apply J1;assumption)|apply J2|apply J3|apply J4))
 go_wp2_with (refine Z4n hZ5 rfl _ _ _ rfl rfl rfl (by rfl) (by kernel_rfl) (by kernel_rfl) ?_; intro w12 hZ12 hc12; have f12 := hZ12.facts)
 refine bodyPost_ret (v := .agg #[.slice a0 a1 a2, .int .i64 b1, .int .i64 b2, .slice d0 d1 d2, .slice a0' a1' a2', .int .i64 b1', .int .i64 b2', .slice d0' d1' d2']) (by simp [results, Tryz.results61, go_sem, f12]) rfl ?_
 have hz4 := hb4.size
 have hd4 : w3.drew.heap.size = w3.heap.size := rfl
 exact ⟨(((a0, a1, a2), b1, b2, (d0, d1, d2)), ((a0', a1', a2'), b1', b2', (d0', d1', d2'))), rfl, HP.out _ _ _ ((hW45.chg hc12 (by simp; omega)).lower (by omega)) ((hW5.chg hc12 (by simp; omega)).lower (by omega)), Z9f (Z08 hb35 hbw3) hc12 (by omega)⟩
def RSW (w : World) (l : List Pan) (e : Ending) (w' : World) : Prop := ∃ v, e = .returned v ∧ SlW w' v l ∧ Below w.heap.size w w'
theorem Zkc {v : Value} (l : List Pan) (w : World) (h : SlP w v l) (hl : l.length ≤ 16) (hk : PieL l) : Calls Tryz.prog 60 #[v, .func (.func 61) #[] #[]] w (RSW w l) := by
 obtain ⟨xs, ⟨A, c, rfl, hlc, hcm, hr⟩, hx⟩ := h
 have HLN := Lib.hid hx.len
 have hl1 : xs.length ≤ l.length := Nat.le_of_eq HLN.out
 have hl2 : l.length ≤ xs.length := Nat.le_of_eq HLN.out.symm
 have HK := Lib.hid hk
 clear hk
 go_enter Tryz.func60, Tryz.ntmps60
 go_wp2
 go_loopw [5, 10] (fun o i wr => ∃ (k : Nat) (ys : List PcV), k ≤ xs.length ∧ i = .int .i64 k ∧ Own pcc 8 w.heap.size 123 wr o ys ∧ PcsO w.heap.size wr ys (l.take k) ∧ Below w.heap.size w wr) (fun _ i _ => xs.length - (intOf i).toNat)
 case atStart => exact ⟨0, [], Nat.zero_le _, rfl, Own.nil_, trivial, Z03⟩
 case round =>
  obtain ⟨k, ys, hk, rfl, hO, hPs, hbw⟩ := hrel; obtain ⟨wo, rfl⟩ : ∃ x, x = wr := ⟨_, rfl⟩
  by_cases hlt : k < xs.length
  ·have hkl : k < l.length := by omega
   have hp := (hx.below hbw).get (List.getElem?_eq_getElem hlt) (List.getElem?_eq_getElem hkl)
   have hpk := HK.out _ (List.getElem_mem hkl)
   have HT := Lib.hid (List.take_succ_eq_append_getElem hkl)
   obtain ⟨b, off, rfl, hb, e0, e1, e2, e3⟩ := (hr.below hbw).pan (List.getElem?_eq_getElem hlt)
   obtain ⟨p, hpe⟩ : ∃ p, l[k] = p := ⟨_, rfl⟩
   rw [hpe] at hp hpk HT; obtain ⟨x, hxe⟩ : ∃ x, xs[k] = x := ⟨_, rfl⟩
   rw [hxe] at hp e0 e1 e2 e3; have hw := fun W (hb : Below wo.heap.size wo W) => Zkb p W hpk.nm (hp.left.below hb) (hp.right.below hb) hpk.er hpk.nt hpk.te hpk.tn
   rw [← hp.nm, ← hp.wd] at hw; have hyl : ys.length ≤ 16 := by rw [hPs.len, List.length_take]; omega
   obtain ⟨L, hL⟩ : ∃ L, l.take k = L := ⟨_, rfl⟩
   rw [hL] at hPs HT; obtain ⟨⟨n0, n1, ⟨a0, a1, a2⟩, ⟨b0, b1, b2⟩⟩, hxx⟩ : ∃ z, x = z := ⟨_, rfl⟩
   rw [hxx] at e0 e1 e2 e3 hw; simp only [sV, slV] at e0 e1 e2 e3 hw; clear hp hpk hpe hxe hL hxx; obtain ⟨Ao, co, rfl⟩ := hO.shape; have hal : Below wo.heap.size wo (wo.alloc (.cells #[.string ⟨n0.toArray⟩, .int .i64 n1, .slice a0 a1 a2, .slice b0 b1 b2] 97)) := Z04 Z03 _
   go_wp2_with fail; refine (hw _ hal).mono ?_
   rintro e w2 ⟨y, rfl, hW2, hb2⟩; have hal2 : Below wo.heap.size wo w2 := Z08 hb2 hal
   have hO2 := hO.below hal2
   have hPs2 := hPs.below hal2
   have hbw2 := Z08 hal2 hbw
   have hy : Hid ((pcc y).toArray = #[slV y.1.1, .int .i64 y.1.2.1, .int .i64 y.1.2.2.1, slV y.1.2.2.2, slV y.2.1, .int .i64 y.2.2.1, .int .i64 y.2.2.2.1, slV y.2.2.2.2]) := rfl
   obtain ⟨⟨⟨⟨p0, p1, p2⟩, p3, p4, ⟨p5, p6, p7⟩⟩, ⟨⟨q0, q1, q2⟩, q3, q4, ⟨q5, q6, q7⟩⟩⟩, hyy⟩ : ∃ z, y = z := ⟨_, rfl⟩
   rw [hyy] at hy ⊢; simp only [slV] at hy ⊢; have hu := Sl.oneG (enc := pcc) (sz := 8) w2 123 y #[.slice p0 p1 p2, .int .i64 p3, .int .i64 p4, .slice p5 p6 p7, .slice q0 q1 q2, .int .i64 q3, .int .i64 q4, .slice q5 q6 q7] (by simp only [hyy]; rfl)
   have hal3 : Below w2.heap.size w2 (w2.alloc (.cells #[.slice p0 p1 p2, .int .i64 p3, .int .i64 p4, .slice p5 p6 p7, .slice q0 q1 q2, .int .i64 q3, .int .i64 q4, .slice q5 q6 q7] 123)) := Z04 Z03 _
   have hz2 : w.heap.size ≤ (wo.alloc (.cells #[.string ⟨n0.toArray⟩, .int .i64 n1, .slice a0 a1 a2, .slice b0 b1 b2] 97)).heap.size := Nat.le_trans hbw.size hal.size
   have hW3 := (hW2.lower hz2).below hal3
   have hPs3 := hPs2.below hal3
   have hO3 := hO2.below hal3
   have hbw3 := Z08 hal3 hbw2
   have hyl2 : Hid (y = y) := rfl
   clear hO hal hb2 hal2 hW2 hPs2 hbw2 hyy hy; go_wp2_with (at_builtin; refine Z3y rfl Zjk Zji Zjj _ _ rfl w.heap.size _ _ ys [y] rfl rfl hO3 hu (by simp [maxLen]; omega) (by simp; omega) hbw3.size ?_; intro v3 w3 hu3 hgr3)
   have hb3 : Below w.heap.size w w3 := Z09 hgr3 hbw3 (fun j e => (hO3.lt j e).1)
   go_wp2; go_roundw; case rel => exact ⟨k + 1, ys ++ [y], by omega, by go_num, hu3, by rw [HT.out]; exact (hPs3.grow hO3 hgr3).snoc (hW3.grow hO3 hgr3), hb3⟩
   case measure => simp [intOf]; omega
  ·obtain rfl : k = xs.length := by omega
   have HT := Lib.hid (show l.take xs.length = l by rw [HLN.out, List.take_length])
   go_wp2; go_ret; exact ⟨_, rfl, ⟨ys, hO.rd Zji, by rw [HT.out] at hPs; exact hPs.at_⟩, hbw⟩
end Go.Proofs.YtpcgeihemkhkjaaGreatDoor
namespace Go.Proofs.YtpcgeihemkhkjaaGreatDoor
open Go.RowKit Go.ChangeMaps
set_option maxHeartbeats 4000000
set_option maxRecDepth 100000
theorem Zkd (r : Bool) (l : List Stp) (k : Knot) : k ∈ outK r k l := by
 cases l with
 | nil => simp [outK]
 | cons s t => rw [outK]; exact List.mem_cons_self ..
theorem Zke (r : Bool) : ∀ (l : List Stp) (k : Knot) (z : Int × Int), z ∈ sidS r k l → z.1 ∈ (outK r k l).map (·.1) ∧ z.2 ∈ (outK r k l).map (·.1)
 | [], _, _, h => by simp [sidS] at h
 | s :: t, k, z, h => by
  rw [sidS] at h; have hk : k.1 ∈ (outK r k (s :: t)).map (·.1) := List.mem_map.2 ⟨k, Zkd _ _ _, rfl⟩
  have hs : (Z2m r k s).1 ∈ (outK r k (s :: t)).map (·.1) := List.mem_map.2 ⟨Z2m r k s, by rw [outK]; exact List.mem_cons_of_mem _ (Zkd _ _ _), rfl⟩
  rcases List.mem_append.1 h with h | h
  ·split at h
   ·simp only [List.mem_cons, List.not_mem_nil, or_false, or_self] at h
    subst h; exact ⟨hk, hk⟩
   ·split at h
    ·simp only [List.mem_singleton] at h
     subst h; exact ⟨hk, hs⟩
    ·cases h
  ·obtain ⟨a, b⟩ := Zke r t _ z h
   rw [outK, List.map_cons]; exact ⟨List.mem_cons_of_mem _ a, List.mem_cons_of_mem _ b⟩
theorem Zkf {p : Pan} {r : Bool} {z : Int × Int} (h : z ∈ sidP p r) : z.1 ∈ xsP p ∧ z.2 ∈ xsP p := by
 have h' := Zke r _ _ z h
 unfold xsP
 rw [List.map_append, List.mem_append, List.mem_append]
 cases r
 ·exact ⟨.inl h'.1, .inl h'.2⟩
 ·exact ⟨.inr h'.1, .inr h'.2⟩
theorem Zkg : ∀ (l : List Int) (a : Int × Int), ((l.foldl Z6o a).1 ≤ a.1 ∧ a.2 ≤ (l.foldl Z6o a).2) ∧ ∀ x ∈ l, (l.foldl Z6o a).1 ≤ x ∧ x ≤ (l.foldl Z6o a).2
 | [], a => by simp
 | x :: r, a => by
  rw [List.foldl_cons]; obtain ⟨⟨h1, h2⟩, h3⟩ := Zkg r (Z6o a x)
  have m1 : (Z6o a x).1 ≤ a.1 ∧ (Z6o a x).1 ≤ x := by unfold Z6o; simp only; omega
  have m2 : a.2 ≤ (Z6o a x).2 ∧ x ≤ (Z6o a x).2 := by unfold Z6o; simp only; omega
  refine ⟨⟨by omega, by omega⟩, fun z hz => ?_⟩
  rcases List.mem_cons.1 hz with rfl | hz
  ·omega
  ·exact h3 z hz
theorem Zkh {p : Pan} {x : Int} (h : x ∈ xsP p) : (Zin p).1 ≤ x ∧ x ≤ (Zin p).2 := (Zkg (xsP p) _).2 x h
theorem Zki : ∀ (l : List Int) (a : Int × Int), ((l.foldl Z6o a).1 = a.1 ∨ (l.foldl Z6o a).1 ∈ l) ∧ ((l.foldl Z6o a).2 = a.2 ∨ (l.foldl Z6o a).2 ∈ l)
 | [], a => by simp
 | x :: r, a => by
  rw [List.foldl_cons]; obtain ⟨h1, h2⟩ := Zki r (Z6o a x)
  have m1 : (Z6o a x).1 = a.1 ∨ (Z6o a x).1 = x := by unfold Z6o; simp only; omega
  have m2 : (Z6o a x).2 = a.2 ∨ (Z6o a x).2 = x := by unfold Z6o; simp only; omega
  refine ⟨?_, ?_⟩
  ·rcases h1 with h1 | h1
   ·rcases m1 with m | m
    ·exact .inl (by rw [h1, m])
    ·exact .inr (by rw [h1, m]; exact List.mem_cons_self ..)
   ·exact .inr (List.mem_cons_of_mem _ h1)
  ·rcases h2 with h2 | h2
   ·rcases m2 with m | m
    ·exact .inl (by rw [h2, m])
    ·exact .inr (by rw [h2, m]; exact List.mem_cons_self ..)
   ·exact .inr (List.mem_cons_of_mem _ h2)
theorem Zkj {p : Pan} (h : ∀ x ∈ xsP p, -999999999 ≤ x ∧ x ≤ 999999999) : (Zin p).1 ∈ xsP p ∧ (Zin p).2 ∈ xsP p := by
 obtain ⟨h1, h2⟩ := Zki (xsP p) (999999999, -999999999)
 have h0 : (Z34 p false).1 ∈ xsP p := by
  unfold xsP; rw [List.map_append, List.mem_append]; exact .inl (List.mem_map.2 ⟨Z34 p false, Zkd _ _ _, rfl⟩)
 obtain ⟨e1, e2⟩ := Zkh h0
 obtain ⟨b1, b2⟩ := h _ h0
 refine ⟨?_, ?_⟩
 ·rcases h1 with h1 | h1
  ·have : (Zin p).1 = 999999999 := h1
   have e : (Z34 p false).1 = (Zin p).1 := by omega
   rw [← e]; exact h0
  ·exact h1
 ·rcases h2 with h2 | h2
  ·have : (Zin p).2 = -999999999 := h2
   have e : (Z34 p false).1 = (Zin p).2 := by omega
   rw [← e]; exact h0
  ·exact h2
theorem Zkk {A : List Strp} {i : Nat} (h : i < A.length) : stG A i = A[i] := by
 unfold stG
 rw [List.getD_eq_getElem?_getD, List.getElem?_eq_getElem h, Option.getD_some]
theorem Zkl {p : Pan} (ok : Zas p) {i : Nat} (hi : i < (Z6y p).length) : (Z6y p)[i].1 ∈ xsP p ∧ (Z6y p)[i].2.1 ∈ xsP p ∧ (Z6y p)[i].2.2.1 ∈ xsP p ∧ (Z6y p)[i].2.2.2 ∈ xsP p := by
 obtain ⟨e1, e2⟩ := Zca ok
 have h1 : i < (sidP p false).length := by omega
 have h2 : i < (sidP p true).length := by omega
 rw [Zc9 i hi h1 h2]
 obtain ⟨a, b⟩ := Zkf (List.getElem_mem h1)
 obtain ⟨c, d⟩ := Zkf (List.getElem_mem h2)
 exact ⟨a, c, b, d⟩
theorem Zkm {a b : Pan} (ha : Zas a) (hb : Zas b) : 0 < minL (Z6y a) (Z6y b) := by
 have h1 := ha.high
 have h2 := hb.high
 unfold minL
 rw [Zb3, Zb3]
 omega
theorem Zkn {a b : Pan} (ha : Zas a) (hb : Zas b) : (Zin a).1 - (Zin b).2 ≤ gapB (Z6y a) (Z6y b) := by
 have hm := Zkm ha hb
 obtain ⟨n1, _⟩ := Zii (Z6y a) (Z6y b) _ 0 hm
 have l1 : 0 < (Z6y a).length := by unfold minL at hm; omega
 have l2 : 0 < (Z6y b).length := by unfold minL at hm; omega
 obtain ⟨_, x1, _⟩ := Zkl ha l1
 obtain ⟨x2, _⟩ := Zkl hb l2
 have e1 := Zkh x1
 have e2 := Zkh x2
 rw [Zkk l1, Zkk l2] at n1
 unfold Zig at n1
 simp only at n1
 unfold gapB evnI
 split <;> omega
def pnet (l : List Pan) (x : Plc) : List Bar := (netL (pcP l x)).map (shB (x.2.2, 0))
theorem Zko {l : List Pan} {plan : List Plc} : 0 ≤ Zis l plan ∧ ∀ x ∈ plan, (Zin (pcP l x)).2 + x.2.2 ≤ Zis l plan :=
 (Zix (f := fun x => (Zin (pcP l x)).2 + x.2.2) plan 0 (Zis l plan)).1 (Int.le_refl _)
theorem Zkp {l : List Pan} {plan : List Plc} {b : Int} (h0 : 0 ≤ b) (h : ∀ x ∈ plan, (Zin (pcP l x)).2 + x.2.2 ≤ b) : Zis l plan ≤ b := (Zix (f := fun x => (Zin (pcP l x)).2 + x.2.2) plan 0 b).2 ⟨h0, h⟩
theorem Zkq (l : List Pan) : ∀ (r out : List Plc), (r.foldl (fun out x => out ++ [Ziq l out x]) out).map (fun x => (x.1, x.2.1)) = out.map (fun x => (x.1, x.2.1)) ++ r.map fun x => (x.1, x.2.1)
 | [], out => by simp
 | x :: t, out => by
  rw [List.foldl_cons, Zkq l t]; simp [Ziq]
theorem Zkr (l : List Pan) (order : List Plc) : (layP l order).map (fun x => (x.1, x.2.1)) = order.map fun x => (x.1, x.2.1) := Zkq l order []
theorem Zks (l : List Pan) (order : List Plc) : (layP l order).length = order.length := by
 have := congrArg List.length (Zkr l order)
 simpa using this
def ordG (n : Nat) : Nat → List Plc → List (List Plc)
 | 0, begin_ => [begin_]
 | k + 1, begin_ => (List.range n).flatMap fun (i : Nat) => if begin_.any (fun x => decide (x.1 = (i : Int))) then [] else ordG n k (begin_ ++ [((i : Int), false, 0)]) ++ ordG n k (begin_ ++ [((i : Int), true, 0)])
def ordP (n : Nat) : List (List Plc) := ordG n n []
theorem Zkt (n : Nat) : ∀ (k : Nat) (begin_ o : List Plc), o ∈ ordG n k begin_ → ∃ r, o = begin_ ++ r ∧ r.length = k ∧ ∀ x ∈ r, ∃ i : Nat, i < n ∧ x.1 = (i : Int)
 | 0, begin_, o, h => by
  simp only [ordG, List.mem_singleton] at h; exact ⟨[], by simp [h], rfl, by simp⟩
 | k + 1, begin_, o, h => by
  rw [ordG, List.mem_flatMap] at h; obtain ⟨i, hi, h⟩ := h; have hi := List.mem_range.1 hi
  split at h
  ·cases h
  ·rcases List.mem_append.1 h with h | h
   ·obtain ⟨r, rfl, hl, hx⟩ := Zkt n k _ o h
    refine ⟨((i : Int), false, 0) :: r, by simp, by simp [hl], fun x hx' => ?_⟩
    rcases List.mem_cons.1 hx' with rfl | hx'
    ·exact ⟨i, hi, rfl⟩
    ·exact hx x hx'
   ·obtain ⟨r, rfl, hl, hx⟩ := Zkt n k _ o h
    refine ⟨((i : Int), true, 0) :: r, by simp, by simp [hl], fun x hx' => ?_⟩
    rcases List.mem_cons.1 hx' with rfl | hx'
    ·exact ⟨i, hi, rfl⟩
    ·exact hx x hx'
def Zku (b : Bal) (l : List Pan) (a : Option (List Plc × Int)) (o : List Plc) : Option (List Plc × Int) :=
 if fitE b l (layP l o) = 0 ∧ (∀ z, a = some z → lenP l (layP l o) < z.2) then some (layP l o, lenP l (layP l o)) else a
instance (a : Option (List Plc × Int)) (n : Int) : Decidable (∀ z, a = some z → n < z.2) := by
 cases a with
 | none => exact isTrue (by simp)
 | some z => exact decidable_of_iff (n < z.2) ⟨fun h y e => by cases e; exact h, fun h => h z rfl⟩
def Zkv (b : Bal) (l : List Pan) : Option (List Plc × Int) := (ordP l.length).foldl (Zku b l) none
theorem Zkw {p : Pan} (ok : Zas p) : ∀ x, x ∈ xsP (trnP p) ↔ ∃ y ∈ xsP p, x = topX p true - y := by
 have o1 : outP (trnP p) false = (outP p true).reverse.map (rotK (topC p)) := Zhk ok true
 have o2 : outP (trnP p) true = (outP p false).reverse.map (rotK (topC p)) := Zhk ok false
 intro x
 unfold xsP
 rw [o1, o2]
 simp only [List.map_append, List.mem_append, List.mem_map, List.mem_reverse]
 constructor
 ·rintro (⟨k, ⟨j, hj, rfl⟩, rfl⟩ | ⟨k, ⟨j, hj, rfl⟩, rfl⟩)
  ·exact ⟨j.1, .inr ⟨j, hj, rfl⟩, rfl⟩
  ·exact ⟨j.1, .inl ⟨j, hj, rfl⟩, rfl⟩
 ·rintro ⟨y, ⟨j, hj, rfl⟩ | ⟨j, hj, rfl⟩, rfl⟩
  ·exact .inr ⟨_, ⟨j, hj, rfl⟩, rfl⟩
  ·exact .inl ⟨_, ⟨j, hj, rfl⟩, rfl⟩
def Zkx (l : List Pan) (plan : List Plc) (i : Nat) (t : Bool) : List Plc := plan ++ [Ziq l plan ((i : Int), t, 0)]
def onB (b : Bal) (l : List Pan) (plan : List Plc) (i : Nat) : Option (List Plc) :=
 if fitE b l (Zkx l plan i true) = 0 ∧ (fitE b l (Zkx l plan i false) ≠ 0 ∨ lenP l (Zkx l plan i true) < lenP l (Zkx l plan i false)) then some (Zkx l plan i true)
 else if fitE b l (Zkx l plan i false) = 0 then some (Zkx l plan i false) else none
theorem Zky {b : Bal} {l : List Pan} {plan q : List Plc} {i : Nat} (h : onB b l plan i = some q) : fitE b l q = 0 ∧ ∃ t, q = Zkx l plan i t := by
 unfold onB at h
 split at h
 ·rename_i hc
  injection h with h
  subst h; exact ⟨hc.1, true, rfl⟩
 ·split at h
  ·rename_i hc
   injection h with h
   subst h; exact ⟨hc, false, rfl⟩
  ·cases h
def putB (l : List Pan) (i : Nat) : List Bal → List (List Plc) → Option (List (List Plc))
 | b :: bs, p :: ps => match onB b l p i with
  | some q => some (q :: ps)
  | none => (putB l i bs ps).map fun r => p :: r
 | _, _ => none
def Zkz (stock : List Bal) (l : List Pan) (a : Option (List (List Plc))) (i : Nat) : Option (List (List Plc)) := a.bind fun ps => putB l i stock ps
def Zl0 (stock : List Bal) (l : List Pan) : Option (List (List Plc)) := (List.range l.length).foldl (Zkz stock l) (some (List.replicate stock.length []))
theorem Zl1 {p : Pan} {m M : Int} (h : Box p m M) : ∀ x ∈ xsP p, m ≤ x ∧ x ≤ M := by
 intro x hx
 unfold xsP at hx
 rw [List.map_append, List.mem_append, List.mem_map, List.mem_map] at hx
 rcases hx with ⟨k, hk, rfl⟩ | ⟨k, hk, rfl⟩
 ·exact h.left k hk
 ·exact h.right k hk
theorem Zl2 {p : Pan} {m M : Int} (h : Box p m M) (h0 : -999999 ≤ m ∧ M ≤ 999999) : m ≤ (Zin p).1 ∧ (Zin p).1 ≤ (Zin p).2 ∧ (Zin p).2 ≤ M := by
 have hx := Zl1 h
 obtain ⟨m1, m2⟩ := Zkj (p := p) fun x hx' => by have := hx x hx'; omega
 have a1 := hx _ m1
 have a2 := hx _ m2
 have := Zkh m1
 omega
theorem Zl3 {a b : Pan} (ha : Zas a) (hb : Zas b) {m M : Int} (ba : Box a m M) (bb : Box b m M) (h0 : -999999 ≤ m ∧ M ≤ 999999) : m - M ≤ gapB (Z6y a) (Z6y b) ∧ gapB (Z6y a) (Z6y b) ≤ M - m + 2 := by
 have e1 := Zl2 ba h0
 have e2 := Zl2 bb h0
 have h1 := Zkn ha hb
 refine ⟨by omega, ?_⟩
 have hm := Zkm ha hb
 have he : evnI (M - m + 1) % 2 = 0 := by unfold evnI; omega
 have : gapB (Z6y a) (Z6y b) ≤ evnI (M - m + 1) := by
  refine (Zim hm he).1 fun i hi => ?_
  have i1 : i < (Z6y a).length := by unfold minL at hi; omega
  have i2 : i < (Z6y b).length := by unfold minL at hi; omega
  obtain ⟨s1, s2, s3, s4⟩ := Zkl ha i1
  obtain ⟨t1, t2, t3, t4⟩ := Zkl hb i2
  have x1 := Zl1 ba _ s2
  have x2 := Zl1 ba _ s4
  have x3 := Zl1 bb _ t1
  have x4 := Zl1 bb _ t3
  rw [Zkk i1, Zkk i2]; unfold aptS Zig evnI; simp only
  omega
 unfold evnI at this
 omega
def Pcs (l : List Pan) : Prop := ∀ p ∈ l, Zgp p 8 ∧ panE p = 0 ∧ panE (trnP p) = 0
def InP (l : List Pan) (x : Plc) : Prop := 0 ≤ x.1 ∧ x.1 < (l.length : Int)
theorem pcs_of {l : List Pan} (h : pieE l = 0) (hs : ∀ p ∈ l, Zdr p 8 = true) : Pcs l := by
 have key : ∀ (r done : List Pan), pieG done r = 0 → ∀ p ∈ r, panE p = 0 ∧ panE (trnP p) = 0 := by
  intro r; induction r with
  | nil => intro _ _ p hp; cases hp
  | cons q t ih =>
   intro done h p hp; rw [pieG] at h; split at h
   ·rename_i hc
    rcases List.mem_cons.1 hp with rfl | hp
    ·unfold Ziu at hc
     simp only [Z17] at hc; split at hc
     ·rename_i h1
      split at hc
      ·split at hc
       ·rename_i h3
        exact ⟨h1, h3⟩
       ·rename_i h3; exact absurd hc h3
      ·rename_i h2; exact absurd hc h2
     ·rename_i h1; exact absurd hc h1
    ·exact ih _ h p hp
   ·rename_i hc; exact absurd h hc
 unfold pieE at h
 split at h
 ·cases h
 ·intro p hp
  obtain ⟨h1, h2⟩ := key l [] h p hp
  exact ⟨Zgq (hs p hp) (Zaw h1), h1, h2⟩
theorem Zl4 {l : List Pan} {x : Plc} (h : InP l x) : ∃ p ∈ l, pcP l x = if x.2.1 then trnP p else p := by
 have hi : x.1.toNat < l.length := by unfold InP at h; omega
 refine ⟨l[x.1.toNat], List.getElem_mem _, ?_⟩
 unfold pcP
 rw [List.getD_eq_getElem?_getD, List.getElem?_eq_getElem hi]
 rfl
def PcsV (l : List Pan) : Prop := ∀ p ∈ l, panE p = 0 ∧ panE (trnP p) = 0
theorem PcsV.pc {l : List Pan} (h : PcsV l) {x : Plc} (hx : InP l x) : panE (pcP l x) = 0 := by
 obtain ⟨p, hp, e⟩ := Zl4 hx
 obtain ⟨h1, h2⟩ := h p hp
 rw [e]
 split
 ·exact h2
 ·exact h1
theorem PcsV.ok {l : List Pan} (h : PcsV l) {x : Plc} (hx : InP l x) : Zas (pcP l x) := Zaw (h.pc hx)
theorem PcsV.min {l : List Pan} (h : PcsV l) {o x : Plc} (ho : InP l o) (hx : InP l x) : 0 < minL (stP l o) (stP l x) := Zkm (h.ok ho) (h.ok hx)
theorem Zl5 {p : Pan} (ok : Zas p) : -4096 ≤ (Zin p).1 ∧ (Zin p).1 + 2 ≤ (Zin p).2 ∧ (Zin p).2 ≤ 4096 := by
 have e := Zl2 ok.box (by omega)
 have a1 : (Z34 p false).1 ∈ xsP p := by
  unfold xsP; rw [List.map_append, List.mem_append]; exact .inl (List.mem_map_of_mem (Zkd _ _ _))
 have a2 : (Z34 p true).1 ∈ xsP p := by
  unfold xsP; rw [List.map_append, List.mem_append]; exact .inr (List.mem_map_of_mem (Zkd _ _ _))
 have b1 := Zkh a1
 have b2 := Zkh a2
 have hw := ok.wid
 have c1 : (Z34 p false).1 = 0 := rfl
 have c2 : (Z34 p true).1 = 2 * p.2.1 := rfl
 omega
theorem PcsV.ends {l : List Pan} (h : PcsV l) {x : Plc} (hx : InP l x) : -4096 ≤ (Zin (pcP l x)).1 ∧ (Zin (pcP l x)).1 + 2 ≤ (Zin (pcP l x)).2 ∧ (Zin (pcP l x)).2 ≤ 4096 := Zl5 (h.ok hx)
theorem Zl6 {p : Pan} (ok : Zas p) {m M t : Int} (h : Box p m M) (ht : topX p true = t) : ∀ x ∈ xsP (trnP p), t - M ≤ x ∧ x ≤ t - m := by
 intro x hx
 obtain ⟨y, hy, rfl⟩ := (Zkw ok x).1 hx
 have := Zl1 h y hy
 omega
theorem Zl7 {p : Pan} {m M : Int} (h : ∀ x ∈ xsP p, m ≤ x ∧ x ≤ M) : Box p m M := by
 have hx : ∀ x, x ∈ xsP p ↔ x ∈ (outP p false).map (·.1) ∨ x ∈ (outP p true).map (·.1) := fun x => by
  unfold xsP; rw [List.map_append, List.mem_append]
 exact ⟨fun k hk => h _ ((hx _).2 (.inl (List.mem_map_of_mem hk))), fun k hk => h _ ((hx _).2 (.inr (List.mem_map_of_mem hk)))⟩
theorem Pcs.pc {l : List Pan} (h : Pcs l) {x : Plc} (hx : InP l x) : Zas (pcP l x) ∧ Box (pcP l x) (-64) 64 := by
 obtain ⟨p, hp, e⟩ := Zl4 hx
 obtain ⟨h1, h2, h3⟩ := h p hp
 rw [e]
 have hb := h1.box
 have ht := h1.top true
 split
 ·exact ⟨Zaw h3, Zl7 fun y hy => by have := Zl6 h1.ok hb rfl y hy; omega⟩
 ·exact ⟨h1.ok, Zl7 fun y hy => by have := Zl1 hb y hy; omega⟩
theorem Pcs.gap {l : List Pan} (h : Pcs l) {o x : Plc} (ho : InP l o) (hx : InP l x) : -128 ≤ gapB (stP l o) (stP l x) ∧ gapB (stP l o) (stP l x) ≤ 130 := by
 have := Zl3 (h.pc ho).1 (h.pc hx).1 (h.pc ho).2 (h.pc hx).2 (by omega)
 exact ⟨by have := this.1; unfold stP; omega, by have := this.2; unfold stP; omega⟩
theorem Pcs.ends {l : List Pan} (h : Pcs l) {x : Plc} (hx : InP l x) : -64 ≤ (Zin (pcP l x)).1 ∧ (Zin (pcP l x)).1 + 2 ≤ (Zin (pcP l x)).2 ∧ (Zin (pcP l x)).2 ≤ 64 := by
 obtain ⟨h1, h2⟩ := h.pc hx
 have e := Zl2 h2 (by omega)
 have := Zl5 h1
 omega
theorem Zl8 {l : List Pan} (h : Pcs l) : ∀ (r out : List Plc), (∀ x ∈ out ++ r, InP l x) → (∀ x ∈ out, -64 ≤ x.2.2 ∧ x.2.2 ≤ 130 * (out.length : Int) - 65) → ∀ x ∈ r.foldl (fun out x => out ++ [Ziq l out x]) out, -64 ≤ x.2.2 ∧ x.2.2 ≤ 130 * ((out.length : Int) + r.length) - 65
 | [], out, _, ho => by
  intro x hx; have := ho x hx
  simp only [List.length_nil]; omega
 | y :: r, out, hi, ho => by
  have hy : InP l y := hi y (by simp)
  rw [List.foldl_cons]
  have hn : -64 ≤ Zip l out y ∧ Zip l out y ≤ 130 * ((out.length : Int) + 1) - 65 := by
   have e := h.ends hy
   have s := Zj3 (l := l) (plan := out) (x := y)
   refine ⟨by omega, ?_⟩
   unfold Zip; refine (Zix (f := fun o => o.2.2 + gapB (stP l o) (stP l y)) out _ _).2 ⟨by unfold evnI; omega, fun o hm => ?_⟩
   have := ho o hm
   have := h.gap (hi o (List.mem_append.2 (.inl hm))) hy
   omega
  have := Zl8 h r (out ++ [Ziq l out y]) (fun x hx => by
   rcases List.mem_append.1 hx with hx | hx
   ·rcases List.mem_append.1 hx with hx | hx
    ·exact hi x (List.mem_append.2 (.inl hx))
    ·rw [List.mem_singleton] at hx
     subst hx; exact hy
   ·exact hi x (by simp [hx])) (fun x hx => by
   rw [List.length_append, List.length_singleton]; rcases List.mem_append.1 hx with hx | hx
   ·have := ho x hx
    omega
   ·rw [List.mem_singleton] at hx
    subst hx; unfold Ziq; simp only
    omega)
  intro x hx; have := this x hx
  rw [List.length_append, List.length_singleton] at this; rw [List.length_cons]; omega
theorem Zl9 {l : List Pan} {order : List Plc} (hi : ∀ x ∈ order, InP l x) : ∀ x ∈ layP l order, InP l x := by
 intro x hx
 have : (x.1, x.2.1) ∈ (layP l order).map fun x => (x.1, x.2.1) := List.mem_map_of_mem (f := fun x : Plc => (x.1, x.2.1)) hx
 rw [Zkr, List.mem_map] at this
 obtain ⟨y, hy, e⟩ := this
 have := hi y hy
 unfold InP at this ⊢
 injection e with e1 e2
 omega
end Go.Proofs.YtpcgeihemkhkjaaGreatDoor

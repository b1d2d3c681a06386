/- Both ways of a piece, walked. Conditions: the piece has no error. -/
import Derived.Test.YtpcgeihemkhkjaaGreatDoorR25
import Derived.Test.YtpcgeihemkhkjaaGreatDoorR20
import Derived.Test.YtpcgeihemkhkjaaGreatDoorR22
import Derived.Test.YtpcgeihemkhkjaaGreatDoorR23
import Derived.Test.YtpcgeihemkhkjaaGreatDoorR21
namespace Go.Proofs.YtpcgeihemkhkjaaGreatDoor
open Go.RowKit Go.ChangeMaps
set_option maxHeartbeats 4000000
set_option maxRecDepth 100000
attribute [local go_sem] Oper.semAt_some
def RPC (w : World) (p : Pan) (e : Ending) (w' : World) : Prop := ∃ x : PcV, e = .returned (.agg #[slV x.1.1, .int .i64 x.1.2.1, .int .i64 x.1.2.2.1, slV x.1.2.2.2, slV x.2.1, .int .i64 x.2.2.1, .int .i64 x.2.2.2.1, slV x.2.2.2.2]) ∧ PcO w.heap.size w' x p ∧ Below w.heap.size w w'
theorem ways_any {vL vR : Value} (p : Pan) (w : World) (hnm : p.1.length ≤ 1000000) (hL : SlE w vL p.2.2.1) (hR : SlE w vR p.2.2.2) (hE : panE p = 0) (hN : netErr p = 0) (hT : panE (trnP p) = 0) (hM : netErr (trnP p) = 0) :
  Calls Tryz.prog 61 #[.agg #[sV p.1, .int .i64 p.2.1, vL, vR]] w (RPC w p) := by
 have ht := fun W (hb : Below w.heap.size w W) => apiTurn_any p W hnm (hL.below hb) (hR.below hb)
 have HQ : pcR (panE p) (turQ p) = trnP p ∧ pcE (panE p) (turQ p) = 0 := by
  have e : pcE (panE p) (turQ p) = 0 := by unfold pcE; rw [if_neg (by simp [hE])]; exact hT
  exact ⟨by unfold pcR; rw [e, if_pos rfl]; rfl, e⟩
 rw [HQ.1, HQ.2] at ht
 have hs1 := fun W (hb : Below w.heap.size w W) => seen_any p W hnm (hL.below hb) (hR.below hb) hE hN
 have hs2 := fun W vL vR hL hR => seen_any (vL := vL) (vR := vR) (trnP p) W (show (trnP p).1.length ≤ 1000000 from hnm) hL hR hT hM
 have HP : Hid (∀ (b : Nat) (x : PcV) W, WyO b W x.1 p → WyO b W x.2 (trnP p) → PcO b W x p) := fun _ _ _ h1 h2 => ⟨h1, h2⟩
 have HS2 := Lib.hid hs2
 obtain ⟨T, hTT⟩ : ∃ T, trnP p = T := ⟨_, rfl⟩
 rw [hTT] at ht HS2 HP
 obtain ⟨tn, tw, tl, tr⟩ := T
 clear hTT hs2 hE hN hT hM HQ hnm
 obtain ⟨AL, cL, rfl, _, _, _⟩ := hL
 obtain ⟨AR, cR, rfl, _, _, _⟩ := hR
 unfold sV at ht hs1 HS2 ⊢
 unfold RPN at ht
 unfold sV at ht
 simp only at ht
 have hP := (Blk.new w 97 #[.string ⟨p.1.toArray⟩, .int .i64 p.2.1, .slice AL p.2.2.1.length cL, .slice AR p.2.2.2.length cR]).alloc (.cells #[.slice none 0 0, .int .i64 0, .int .i64 0, .slice none 0 0, .slice none 0 0, .int .i64 0, .int .i64 0, .slice none 0 0] 123)
 have hZ := Blk.new1 w (.cells #[.string ⟨p.1.toArray⟩, .int .i64 p.2.1, .slice AL p.2.2.1.length cL, .slice AR p.2.2.2.length cR] 97) 123 #[.slice none 0 0, .int .i64 0, .int .i64 0, .slice none 0 0, .slice none 0 0, .int .i64 0, .int .i64 0, .slice none 0 0]
 have fhP := hP.facts
 go_enter Tryz.func61, Tryz.ntmps61
 go_wp2_with fail
 refine (ht _ (by (repeat first|exact J0|assumption|(apply J1;assumption)|apply J2|apply J3|apply J4))).mono ?_
 rintro e w2 ⟨u1, u2, rfl, hu1, hu2, hb2⟩
 replace hP := hP.below (show Below _ _ w2 by (repeat first|exact J0|assumption|(apply J1;assumption)|apply J2|apply J3|apply J4))
 replace fhP := hP.facts
 replace hZ := hZ.below (show Below _ _ w2 by (repeat first|exact J0|assumption|(apply J1;assumption)|apply J2|apply J3|apply J4))
 replace fhZ := hZ.facts
 obtain ⟨A1, c1, rfl⟩ := hu1.shape
 obtain ⟨A2, c2, rfl⟩ := hu2.shape
 have hT2 := Blk.new w2 97 #[.string ⟨tn.toArray⟩, .int .i64 tw, .slice A1 tl.length c1, .slice A2 tr.length c2]
 have hE1 := (hu1.rd ec_len).alloc (.cells #[.string ⟨tn.toArray⟩, .int .i64 tw, .slice A1 tl.length c1, .slice A2 tr.length c2] 97)
 have hE2 := (hu2.rd ec_len).alloc (.cells #[.string ⟨tn.toArray⟩, .int .i64 tw, .slice A1 tl.length c1, .slice A2 tr.length c2] 97)
 have hP3 := hP.alloc (.cells #[.string ⟨tn.toArray⟩, .int .i64 tw, .slice A1 tl.length c1, .slice A2 tr.length c2] 97)
 have hZ3 := hZ.alloc (.cells #[.string ⟨tn.toArray⟩, .int .i64 tw, .slice A1 tl.length c1, .slice A2 tr.length c2] 97)
 have hbw3 : Below w.heap.size w (w2.alloc (.cells #[.string ⟨tn.toArray⟩, .int .i64 tw, .slice A1 tl.length c1, .slice A2 tr.length c2] 97)) := by (repeat first|exact J0|assumption|(apply J1;assumption)|apply J2|apply J3|apply J4)
 go_upto_region 2 with fail
 obtain ⟨w3, hw3⟩ : ∃ X, w2.alloc (.cells #[.string ⟨tn.toArray⟩, .int .i64 tw, .slice A1 tl.length c1, .slice A2 tr.length c2] 97) = X := ⟨_, rfl⟩
 obtain ⟨gt, hgt⟩ : ∃ X, w2.heap.size = X := ⟨_, rfl⟩
 rw [hw3] at hP3 hZ3 hbw3 hE1 hE2
 rw [hw3, hgt] at hT2
 rw [hw3, hgt]
 clear hw3 hgt hP hZ fhP ht hu1 hu2 hb2
 have fhP := hP3.facts
 have fhT := hT2.facts
 have hz3 := hZ3.lt
 have hp3 := hT2.lt
 refine wp_region_ords [0, 2] [(1, false)] [3, 4, 5] (by kernel_rfl) (by kernel_rfl) (fun d _ _ _ _ h => by cases d <;> exact h) ?_
 simp only [List.map_cons, List.map_nil, List.getD_cons_zero, List.getD_cons_succ]
 repeat (go_big_quiet_step (fail))
 refine wpQuiet_nil ?_
 refine wpMid_run rfl (fun K hK => ?_)
 go_simp
 refine (hs1 _ (by (repeat first|exact J0|assumption|(apply J1;assumption)|apply J2|apply J3|apply J4))).mono ?_
 rintro e w4 ⟨⟨⟨a0, a1, a2⟩, b1, b2, ⟨d0, d1, d2⟩⟩, rfl, hW4, hb4⟩
 refine hK _ _ (by (repeat first|exact J0|assumption|(apply J1;assumption)|apply J2|apply J3|apply J4)) ?_
 clear hK K
 have hT2_w4 := hT2.below (show Below _ _ w4 by (repeat first|exact J0|assumption|(apply J1;assumption)|apply J2|apply J3|apply J4))
 have fhT2_w4 := hT2_w4.facts
 refine wpMid_nil ?_
 go_wp2_with fail
 refine (HS2.out _ _ _ (hE1.below (by (repeat first|exact J0|assumption|(apply J1;assumption)|apply J2|apply J3|apply J4))) (hE2.below (by (repeat first|exact J0|assumption|(apply J1;assumption)|apply J2|apply J3|apply J4)))).mono ?_
 rintro e w5 ⟨⟨⟨a0', a1', a2'⟩, b1', b2', ⟨d0', d1', d2'⟩⟩, rfl, hW5, hb5⟩
 simp only [slV]
 have hb35 : Below w3.heap.size w3 w5 := by (repeat first|exact J0|assumption|(apply J1;assumption)|apply J2|apply J3|apply J4)
 have hZ5 := hZ3.below hb35
 have hW45 := hW4.below (show Below w4.heap.size w4 w5 by (repeat first|exact J0|assumption|(apply J1;assumption)|apply J2|apply J3|apply J4))
 go_wp2_with (refine wpList_store_blk hZ5 rfl _ _ _ rfl rfl rfl (by rfl) (by kernel_rfl) (by kernel_rfl) ?_; intro w12 hZ12 hc12; have f12 := hZ12.facts)
 refine bodyPost_ret (v := .agg #[.slice a0 a1 a2, .int .i64 b1, .int .i64 b2, .slice d0 d1 d2, .slice a0' a1' a2', .int .i64 b1', .int .i64 b2', .slice d0' d1' d2']) (by simp [results, Tryz.results61, go_sem, f12]) rfl ?_
 have hz4 := hb4.size
 have hd4 : w3.drew.heap.size = w3.heap.size := rfl
 exact ⟨(((a0, a1, a2), b1, b2, (d0, d1, d2)), ((a0', a1', a2'), b1', b2', (d0', d1', d2'))), rfl, HP.out _ _ _ ((hW45.chg hc12 (by simp; omega)).lower (by omega)) ((hW5.chg hc12 (by simp; omega)).lower (by omega)), chg_bl (bl_then hb35 hbw3) hc12 (by omega)⟩
def RSW (w : World) (l : List Pan) (e : Ending) (w' : World) : Prop := ∃ v, e = .returned v ∧ SlW w' v l ∧ Below w.heap.size w w'
theorem mappedW_any {v : Value} (l : List Pan) (w : World) (h : SlP w v l) (hl : l.length ≤ 16) (hk : PieL l) : Calls Tryz.prog 60 #[v, .func (.func 61) #[] #[]] w (RSW w l) := by
 obtain ⟨xs, ⟨A, c, rfl, hlc, hcm, hr⟩, hx⟩ := h
 have HLN := Lib.hid hx.len
 have hl1 : xs.length ≤ l.length := Nat.le_of_eq HLN.out
 have hl2 : l.length ≤ xs.length := Nat.le_of_eq HLN.out.symm
 have HK := Lib.hid hk
 clear hk
 go_enter Tryz.func60, Tryz.ntmps60
 go_wp2
 go_loopw [5, 10] (fun o i wr => ∃ (k : Nat) (ys : List PcV), k ≤ xs.length ∧ i = .int .i64 k ∧ Own pcc 8 w.heap.size 123 wr o ys ∧ PcsO w.heap.size wr ys (l.take k) ∧ Below w.heap.size w wr) (fun _ i _ => xs.length - (intOf i).toNat)
 case atStart => exact ⟨0, [], Nat.zero_le _, rfl, Own.nil_, trivial, bl_refl⟩
 case round =>
  obtain ⟨k, ys, hk, rfl, hO, hPs, hbw⟩ := hrel
  obtain ⟨wo, rfl⟩ : ∃ x, x = wr := ⟨_, rfl⟩
  by_cases hlt : k < xs.length
  ·have hkl : k < l.length := by omega
   have hp := (hx.below hbw).get (List.getElem?_eq_getElem hlt) (List.getElem?_eq_getElem hkl)
   have hpk := HK.out _ (List.getElem_mem hkl)
   have HT := Lib.hid (List.take_succ_eq_append_getElem hkl)
   obtain ⟨b, off, rfl, hb, e0, e1, e2, e3⟩ := (hr.below hbw).pan (List.getElem?_eq_getElem hlt)
   obtain ⟨p, hpe⟩ : ∃ p, l[k] = p := ⟨_, rfl⟩
   rw [hpe] at hp hpk HT
   obtain ⟨x, hxe⟩ : ∃ x, xs[k] = x := ⟨_, rfl⟩
   rw [hxe] at hp e0 e1 e2 e3
   have hw := fun W (hb : Below wo.heap.size wo W) => ways_any p W hpk.nm (hp.left.below hb) (hp.right.below hb) hpk.er hpk.nt hpk.te hpk.tn
   rw [← hp.nm, ← hp.wd] at hw
   have hyl : ys.length ≤ 16 := by rw [hPs.len, List.length_take]; omega
   obtain ⟨L, hL⟩ : ∃ L, l.take k = L := ⟨_, rfl⟩
   rw [hL] at hPs HT
   obtain ⟨⟨n0, n1, ⟨a0, a1, a2⟩, ⟨b0, b1, b2⟩⟩, hxx⟩ : ∃ z, x = z := ⟨_, rfl⟩
   rw [hxx] at e0 e1 e2 e3 hw
   simp only [sV, slV] at e0 e1 e2 e3 hw
   clear hp hpk hpe hxe hL hxx
   obtain ⟨Ao, co, rfl⟩ := hO.shape
   have hal : Below wo.heap.size wo (wo.alloc (.cells #[.string ⟨n0.toArray⟩, .int .i64 n1, .slice a0 a1 a2, .slice b0 b1 b2] 97)) := bl_alloc bl_refl _
   go_wp2_with fail
   refine (hw _ hal).mono ?_
   rintro e w2 ⟨y, rfl, hW2, hb2⟩
   have hal2 : Below wo.heap.size wo w2 := bl_then hb2 hal
   have hO2 := hO.below hal2
   have hPs2 := hPs.below hal2
   have hbw2 := bl_then hal2 hbw
   have hy : Hid ((pcc y).toArray = #[slV y.1.1, .int .i64 y.1.2.1, .int .i64 y.1.2.2.1, slV y.1.2.2.2, slV y.2.1, .int .i64 y.2.2.1, .int .i64 y.2.2.2.1, slV y.2.2.2.2]) := rfl
   obtain ⟨⟨⟨⟨p0, p1, p2⟩, p3, p4, ⟨p5, p6, p7⟩⟩, ⟨⟨q0, q1, q2⟩, q3, q4, ⟨q5, q6, q7⟩⟩⟩, hyy⟩ : ∃ z, y = z := ⟨_, rfl⟩
   rw [hyy] at hy ⊢
   simp only [slV] at hy ⊢
   have hu := Sl.oneG (enc := pcc) (sz := 8) w2 123 y #[.slice p0 p1 p2, .int .i64 p3, .int .i64 p4, .slice p5 p6 p7, .slice q0 q1 q2, .int .i64 q3, .int .i64 q4, .slice q5 q6 q7] (by simp only [hyy]; rfl)
   have hal3 : Below w2.heap.size w2 (w2.alloc (.cells #[.slice p0 p1 p2, .int .i64 p3, .int .i64 p4, .slice p5 p6 p7, .slice q0 q1 q2, .int .i64 q3, .int .i64 q4, .slice q5 q6 q7] 123)) := bl_alloc bl_refl _
   have hz2 : w.heap.size ≤ (wo.alloc (.cells #[.string ⟨n0.toArray⟩, .int .i64 n1, .slice a0 a1 a2, .slice b0 b1 b2] 97)).heap.size := Nat.le_trans hbw.size hal.size
   have hW3 := (hW2.lower hz2).below hal3
   have hPs3 := hPs2.below hal3
   have hO3 := hO2.below hal3
   have hbw3 := bl_then hal3 hbw2
   have hyl2 : Hid (y = y) := rfl
   clear hO hal hb2 hal2 hW2 hPs2 hbw2 hyy hy
   go_wp2_with (at_builtin; refine wpList_app rfl pcc_elem pcc_len pcc_one _ _ rfl w.heap.size _ _ ys [y] rfl rfl hO3 hu (by simp [maxLen]; omega) (by simp; omega) hbw3.size ?_; intro v3 w3 hu3 hgr3)
   have hb3 : Below w.heap.size w w3 := bl_grown hgr3 hbw3 (fun j e => (hO3.lt j e).1)
   go_wp2
   go_roundw
   case rel => exact ⟨k + 1, ys ++ [y], by omega, by go_num, hu3, by rw [HT.out]; exact (hPs3.grow hO3 hgr3).snoc (hW3.grow hO3 hgr3), hb3⟩
   case measure => simp [intOf]; omega
  ·obtain rfl : k = xs.length := by omega
   have HT := Lib.hid (show l.take xs.length = l by rw [HLN.out, List.take_length])
   go_wp2
   go_ret
   exact ⟨_, rfl, ⟨ys, hO.rd pcc_len, by rw [HT.out] at hPs; exact hPs.at_⟩, hbw⟩
end Go.Proofs.YtpcgeihemkhkjaaGreatDoor
namespace Go.Proofs.YtpcgeihemkhkjaaGreatDoor
open Go.RowKit Go.ChangeMaps
set_option maxHeartbeats 4000000
set_option maxRecDepth 100000
theorem outK_head (r : Bool) (l : List Stp) (k : Knot) : k ∈ outK r k l := by
 cases l with
 | nil => simp [outK]
 | cons s t => rw [outK]; exact List.mem_cons_self ..
theorem sid_in (r : Bool) : ∀ (l : List Stp) (k : Knot) (z : Int × Int), z ∈ sidS r k l → z.1 ∈ (outK r k l).map (·.1) ∧ z.2 ∈ (outK r k l).map (·.1)
 | [], _, _, h => by simp [sidS] at h
 | s :: t, k, z, h => by
  rw [sidS] at h
  have hk : k.1 ∈ (outK r k (s :: t)).map (·.1) := List.mem_map.2 ⟨k, outK_head _ _ _, rfl⟩
  have hs : (stepK r k s).1 ∈ (outK r k (s :: t)).map (·.1) := List.mem_map.2 ⟨stepK r k s, by rw [outK]; exact List.mem_cons_of_mem _ (outK_head _ _ _), rfl⟩
  rcases List.mem_append.1 h with h | h
  ·split at h
   ·simp only [List.mem_cons, List.not_mem_nil, or_false, or_self] at h
    subst h
    exact ⟨hk, hk⟩
   ·split at h
    ·simp only [List.mem_singleton] at h
     subst h
     exact ⟨hk, hs⟩
    ·cases h
  ·obtain ⟨a, b⟩ := sid_in r t _ z h
   rw [outK, List.map_cons]
   exact ⟨List.mem_cons_of_mem _ a, List.mem_cons_of_mem _ b⟩
theorem sid_xs {p : Pan} {r : Bool} {z : Int × Int} (h : z ∈ sidP p r) : z.1 ∈ xsP p ∧ z.2 ∈ xsP p := by
 have h' := sid_in r _ _ z h
 unfold xsP
 rw [List.map_append, List.mem_append, List.mem_append]
 cases r
 ·exact ⟨.inl h'.1, .inl h'.2⟩
 ·exact ⟨.inr h'.1, .inr h'.2⟩
theorem fold_ends : ∀ (l : List Int) (a : Int × Int), ((l.foldl minmax a).1 ≤ a.1 ∧ a.2 ≤ (l.foldl minmax a).2) ∧ ∀ x ∈ l, (l.foldl minmax a).1 ≤ x ∧ x ≤ (l.foldl minmax a).2
 | [], a => by simp
 | x :: r, a => by
  rw [List.foldl_cons]
  obtain ⟨⟨h1, h2⟩, h3⟩ := fold_ends r (minmax a x)
  have m1 : (minmax a x).1 ≤ a.1 ∧ (minmax a x).1 ≤ x := by unfold minmax; simp only; omega
  have m2 : a.2 ≤ (minmax a x).2 ∧ x ≤ (minmax a x).2 := by unfold minmax; simp only; omega
  refine ⟨⟨by omega, by omega⟩, fun z hz => ?_⟩
  rcases List.mem_cons.1 hz with rfl | hz
  ·omega
  ·exact h3 z hz
theorem ends_in {p : Pan} {x : Int} (h : x ∈ xsP p) : (endsP p).1 ≤ x ∧ x ≤ (endsP p).2 := (fold_ends (xsP p) _).2 x h
theorem fold_mem : ∀ (l : List Int) (a : Int × Int), ((l.foldl minmax a).1 = a.1 ∨ (l.foldl minmax a).1 ∈ l) ∧ ((l.foldl minmax a).2 = a.2 ∨ (l.foldl minmax a).2 ∈ l)
 | [], a => by simp
 | x :: r, a => by
  rw [List.foldl_cons]
  obtain ⟨h1, h2⟩ := fold_mem r (minmax a x)
  have m1 : (minmax a x).1 = a.1 ∨ (minmax a x).1 = x := by unfold minmax; simp only; omega
  have m2 : (minmax a x).2 = a.2 ∨ (minmax a x).2 = x := by unfold minmax; simp only; omega
  refine ⟨?_, ?_⟩
  ·rcases h1 with h1 | h1
   ·rcases m1 with m | m
    ·exact .inl (by rw [h1, m])
    ·exact .inr (by rw [h1, m]; exact List.mem_cons_self ..)
   ·exact .inr (List.mem_cons_of_mem _ h1)
  ·rcases h2 with h2 | h2
   ·rcases m2 with m | m
    ·exact .inl (by rw [h2, m])
    ·exact .inr (by rw [h2, m]; exact List.mem_cons_self ..)
   ·exact .inr (List.mem_cons_of_mem _ h2)
theorem ends_mem {p : Pan} (h : ∀ x ∈ xsP p, -999999999 ≤ x ∧ x ≤ 999999999) : (endsP p).1 ∈ xsP p ∧ (endsP p).2 ∈ xsP p := by
 obtain ⟨h1, h2⟩ := fold_mem (xsP p) (999999999, -999999999)
 have h0 : (fromP p false).1 ∈ xsP p := by
  unfold xsP
  rw [List.map_append, List.mem_append]
  exact .inl (List.mem_map.2 ⟨fromP p false, outK_head _ _ _, rfl⟩)
 obtain ⟨e1, e2⟩ := ends_in h0
 obtain ⟨b1, b2⟩ := h _ h0
 refine ⟨?_, ?_⟩
 ·rcases h1 with h1 | h1
  ·have : (endsP p).1 = 999999999 := h1
   have e : (fromP p false).1 = (endsP p).1 := by omega
   rw [← e]; exact h0
  ·exact h1
 ·rcases h2 with h2 | h2
  ·have : (endsP p).2 = -999999999 := h2
   have e : (fromP p false).1 = (endsP p).2 := by omega
   rw [← e]; exact h0
  ·exact h2
theorem stG_at {A : List Strp} {i : Nat} (h : i < A.length) : stG A i = A[i] := by
 unfold stG
 rw [List.getD_eq_getElem?_getD, List.getElem?_eq_getElem h, Option.getD_some]
theorem strip_xs {p : Pan} (ok : PanOk p) {i : Nat} (hi : i < (strips p).length) : (strips p)[i].1 ∈ xsP p ∧ (strips p)[i].2.1 ∈ xsP p ∧ (strips p)[i].2.2.1 ∈ xsP p ∧ (strips p)[i].2.2.2 ∈ xsP p := by
 obtain ⟨e1, e2⟩ := sid_lens ok
 have h1 : i < (sidP p false).length := by omega
 have h2 : i < (sidP p true).length := by omega
 rw [strips_get i hi h1 h2]
 obtain ⟨a, b⟩ := sid_xs (List.getElem_mem h1)
 obtain ⟨c, d⟩ := sid_xs (List.getElem_mem h2)
 exact ⟨a, c, b, d⟩
theorem minL_pos {a b : Pan} (ha : PanOk a) (hb : PanOk b) : 0 < minL (strips a) (strips b) := by
 have h1 := ha.high
 have h2 := hb.high
 unfold minL
 rw [strips_len, strips_len]
 omega
theorem gap_ge {a b : Pan} (ha : PanOk a) (hb : PanOk b) : (endsP a).1 - (endsP b).2 ≤ gapB (strips a) (strips b) := by
 have hm := minL_pos ha hb
 obtain ⟨n1, _⟩ := mostG_ge (strips a) (strips b) _ 0 hm
 have l1 : 0 < (strips a).length := by unfold minL at hm; omega
 have l2 : 0 < (strips b).length := by unfold minL at hm; omega
 obtain ⟨_, x1, _⟩ := strip_xs ha l1
 obtain ⟨x2, _⟩ := strip_xs hb l2
 have e1 := ends_in x1
 have e2 := ends_in x2
 rw [stG_at l1, stG_at l2] at n1
 unfold needS at n1
 simp only at n1
 unfold gapB evnI
 split <;> omega
def pnet (l : List Pan) (x : Plc) : List Bar := (netL (pcP l x)).map (shB (x.2.2, 0))
theorem pnet_mem {l : List Pan} {x : Plc} {b : Bar} (hb : b ∈ pnet l x) : ∃ (n : Nat) (hn : n < (stP l x).length), b.2.1 = (n : Int) ∧ (stP l x)[n].1 + x.2.2 ≤ b.1 ∧ b.1 ≤ (stP l x)[n].2.1 + x.2.2 ∧ (b.2.2 = -1 ∨ b.2.2 = 1) ∧ (b.1 - x.2.2 + (n : Int)) % 2 = 0 ∧ (stP l x)[n].2.2.1 + x.2.2 ≤ b.1 + b.2.2 ∧ b.1 + b.2.2 ≤ (stP l x)[n].2.2.2 + x.2.2 := by
 obtain ⟨c, hc, rfl⟩ := List.mem_map.1 hb
 obtain ⟨n, hn, h1, h2, h3, h4, h5, h6, h7⟩ := netL_at hc
 refine ⟨n, hn, ?_⟩
 unfold shB stP
 simp only
 refine ⟨by omega, by omega, by omega, h4, ?_, by omega, by omega⟩
 rw [show c.1 + x.2.2 - x.2.2 + (n : Int) = c.1 + n by omega]
 exact h5
theorem pnet_apart {l : List Pan} {o x : Plc} (h : 0 < minL (stP l o) (stP l x)) (he : (x.2.2 - o.2.2) % 2 = 0) (hg : gapB (stP l o) (stP l x) ≤ x.2.2 - o.2.2) {b : Bar} (h1 : b ∈ pnet l o) (h2 : b ∈ pnet l x) : False := by
 have ha := (apt_iff h he).2 hg
 obtain ⟨n, hn, a1, a2, a3, a4, a5, a6, a7⟩ := pnet_mem h1
 obtain ⟨m, hm, b1, b2, b3, b4, b5, b6, b7⟩ := pnet_mem h2
 obtain rfl : n = m := by omega
 have hi := ha n (by unfold minL; omega)
 rw [stG_at hn, stG_at hm] at hi
 unfold aptS needS at hi
 simp only at hi
 obtain ⟨c1, c2, c3⟩ := hi
 exact c3 ⟨by omega, by omega, by omega⟩
theorem pnet_sheet {l : List Pan} {x : Plc} (ok : PanOk (pcP l x)) (he : x.2.2 % 2 = 0) {c r : Nat} (h0 : 0 ≤ (endsP (pcP l x)).1 + x.2.2) (h1 : (endsP (pcP l x)).2 + x.2.2 ≤ 2 * (c : Int)) (hr : (stP l x).length ≤ r) {b : Bar} (hb : b ∈ pnet l x) : b ∈ shN 0 0 c r := by
 obtain ⟨n, hn, a1, a2, a3, a4, a5, a6, a7⟩ := pnet_mem hb
 obtain ⟨x1, x2, x3, x4⟩ := strip_xs ok hn
 have e1 := ends_in x1
 have e2 := ends_in x2
 have e3 := ends_in x3
 have e4 := ends_in x4
 unfold stP at a2 a3 a6 a7
 refine (shN_mem _).2 ?_
 unfold InS
 refine ⟨?_, ?_, ?_, ?_, ?_, ?_, ?_, ?_⟩
 all_goals omega
theorem pnet_nodup (l : List Pan) (x : Plc) : (pnet l x).Nodup := by
 unfold pnet
 have h : (netL (pcP l x)).Nodup := (netN_asc _ _).imp fun hab e => by subst e; exact bltP_irrefl _ hab
 exact List.Pairwise.map _ (fun a b hne e => hne (by
  unfold shB at e
  simp only [Prod.mk.injEq] at e
  exact Prod.ext (by omega) (Prod.ext (by omega) e.2.2))) h
def Fits (l : List Pan) : List Plc → List Plc → Prop
 | _, [] => True
 | done, x :: r => (∀ o ∈ done, gapB (stP l o) (stP l x) ≤ x.2.2 - o.2.2) ∧ Fits l (done ++ [x]) r
def allNp (l : List Pan) (plan : List Plc) : List Bar := plan.flatMap (pnet l)
theorem fitG_zero {b : Bal} {l : List Pan} : ∀ (r done : List Plc), fitG b l done r = 0 ↔ (∀ x ∈ r, outB b l x = false) ∧ Fits l done r
 | [], done => by simp [fitG, Fits]
 | x :: r, done => by
  rw [fitG, Fits]
  by_cases ho : outB b l x = true
  ·rw [if_pos ho]
   constructor
   ·intro h; cases h
   ·rintro ⟨h, _⟩
    have := h x (List.mem_cons_self ..)
    rw [ho] at this
    cases this
  ·rw [if_neg ho]
   by_cases hc : crsB l done x = true
   ·rw [if_pos hc]
    constructor
    ·intro h; cases h
    ·rintro ⟨_, h, _⟩
     unfold crsB at hc
     rw [List.any_eq_true] at hc
     obtain ⟨o, h1, h2⟩ := hc
     have := h o h1
     simp only [decide_eq_true_eq] at h2
     omega
   ·rw [if_neg hc, fitG_zero r (done ++ [x])]
    have h1 : ∀ o ∈ done, gapB (stP l o) (stP l x) ≤ x.2.2 - o.2.2 := fun o h => by
     refine Classical.byContradiction fun q => hc ?_
     unfold crsB
     rw [List.any_eq_true]
     exact ⟨o, h, by simp only [decide_eq_true_eq]; omega⟩
    constructor
    ·rintro ⟨h2, h3⟩
     refine ⟨fun z hz => ?_, h1, h3⟩
     rcases List.mem_cons.1 hz with rfl | hz
     ·simpa using ho
     ·exact h2 z hz
    ·rintro ⟨h2, _, h3⟩
     exact ⟨fun z hz => h2 z (List.mem_cons_of_mem _ hz), h3⟩
theorem fitG_out {b : Bal} {l : List Pan} : ∀ (r done : List Plc), Fits l done r → (∃ x ∈ r, outB b l x = true) → fitG b l done r = 32
 | [], _, _, h => by obtain ⟨x, h, _⟩ := h; cases h
 | x :: r, done, hf, h => by
  rw [fitG]
  by_cases ho : outB b l x = true
  ·rw [if_pos ho]
  ·rw [if_neg ho, if_neg, fitG_out r (done ++ [x]) hf.2]
   ·obtain ⟨z, hz, hz2⟩ := h
    rcases List.mem_cons.1 hz with rfl | hz
    ·exact absurd hz2 ho
    ·exact ⟨z, hz, hz2⟩
   ·unfold crsB
    rw [List.any_eq_true]
    rintro ⟨o, h1, h2⟩
    have := hf.1 o h1
    simp only [decide_eq_true_eq] at h2
    omega
theorem most_ge {l : List Pan} {plan : List Plc} : 0 ≤ mostE l plan ∧ ∀ x ∈ plan, (endsP (pcP l x)).2 + x.2.2 ≤ mostE l plan :=
 (fold_max_ge (f := fun x => (endsP (pcP l x)).2 + x.2.2) plan 0 (mostE l plan)).1 (Int.le_refl _)
theorem most_le {l : List Pan} {plan : List Plc} {b : Int} (h0 : 0 ≤ b) (h : ∀ x ∈ plan, (endsP (pcP l x)).2 + x.2.2 ≤ b) : mostE l plan ≤ b := (fold_max_ge (f := fun x => (endsP (pcP l x)).2 + x.2.2) plan 0 b).2 ⟨h0, h⟩
theorem fold_max_at {f : Plc → Int} : ∀ (l : List Plc) (a : Int), l.foldl (fun m o => max m (f o)) a = a ∨ ∃ o ∈ l, l.foldl (fun m o => max m (f o)) a = f o
 | [], a => .inl rfl
 | o :: r, a => by
  rw [List.foldl_cons]
  rcases fold_max_at r (max a (f o)) with h | ⟨z, hz, h⟩
  ·by_cases hm : a ≤ f o
   ·exact .inr ⟨o, List.mem_cons_self .., by rw [h]; omega⟩
   ·exact .inl (by rw [h]; omega)
  ·exact .inr ⟨z, List.mem_cons_of_mem _ hz, h⟩
theorem most_at (l : List Pan) (plan : List Plc) : mostE l plan = 0 ∨ ∃ x ∈ plan, mostE l plan = (endsP (pcP l x)).2 + x.2.2 := fold_max_at (f := fun x => (endsP (pcP l x)).2 + x.2.2) plan 0
theorem len_ge {l : List Pan} {plan : List Plc} : 0 ≤ lenP l plan ∧ mostE l plan ≤ 2 * lenP l plan ∧ 2 * lenP l plan ≤ mostE l plan + 1 := by
 have := (most_ge (l := l) (plan := plan)).1
 unfold lenP
 omega
theorem layP_ok (l : List Pan) : ∀ (r out : List Plc), Fits l [] out → (∀ x ∈ out, 0 ≤ (endsP (pcP l x)).1 + x.2.2) → Fits l [] (r.foldl (fun out x => out ++ [nextP l out x]) out) ∧ ∀ x ∈ r.foldl (fun out x => out ++ [nextP l out x]) out, 0 ≤ (endsP (pcP l x)).1 + x.2.2 := by
 have snoc : ∀ (out done : List Plc) (x : Plc), Fits l done out → (∀ o ∈ done ++ out, gapB (stP l o) (stP l x) ≤ x.2.2 - o.2.2) → Fits l done (out ++ [x]) := by
  intro out
  induction out with
  | nil => intro done x _ h; exact ⟨fun o ho => h o (by simpa using ho), trivial⟩
  | cons y t ih =>
   intro done x hf h
   refine ⟨hf.1, ih (done ++ [y]) x hf.2 fun o ho => h o ?_⟩
   simpa using ho
 intro r
 induction r with
 | nil => intro out h1 h2; exact ⟨h1, h2⟩
 | cons x t ih =>
  intro out h1 h2
  have hp : pcP l (nextP l out x) = pcP l x := rfl
  have hs : stP l (nextP l out x) = stP l x := rfl
  refine ih _ (snoc out [] _ h1 fun o ho => ?_) fun z hz => ?_
  ·rw [hs]
   have h := (fold_max_ge (f := fun o => o.2.2 + gapB (stP l o) (stP l x)) out (evnI (-(endsP (pcP l x)).1)) (nextA l out x)).1 (Int.le_refl _)
   have := h.2 o (by simpa using ho)
   show gapB (stP l o) (stP l x) ≤ nextA l out x - o.2.2
   omega
  ·rcases List.mem_append.1 hz with hz | hz
   ·exact h2 z hz
   ·simp only [List.mem_singleton] at hz
    subst hz
    have := next_start (l := l) (plan := out) (x := x)
    rw [hp]
    show 0 ≤ (endsP (pcP l x)).1 + nextA l out x
    omega
theorem layP_fits (l : List Pan) (order : List Plc) : Fits l [] (layP l order) ∧ ∀ x ∈ layP l order, 0 ≤ (endsP (pcP l x)).1 + x.2.2 := layP_ok l order [] trivial (fun x h => by cases h)
theorem layP_pc (l : List Pan) : ∀ (r out : List Plc), (r.foldl (fun out x => out ++ [nextP l out x]) out).map (fun x => (x.1, x.2.1)) = out.map (fun x => (x.1, x.2.1)) ++ r.map fun x => (x.1, x.2.1)
 | [], out => by simp
 | x :: t, out => by
  rw [List.foldl_cons, layP_pc l t]
  simp [nextP]
theorem layP_same (l : List Pan) (order : List Plc) : (layP l order).map (fun x => (x.1, x.2.1)) = order.map fun x => (x.1, x.2.1) := layP_pc l order []
theorem layP_len (l : List Pan) (order : List Plc) : (layP l order).length = order.length := by
 have := congrArg List.length (layP_same l order)
 simpa using this
theorem lay_fit {b : Bal} {l : List Pan} {order : List Plc} (hr : ∀ x ∈ layP l order, ((stP l x).length : Int) ≤ b.2.1) (hb : 0 ≤ b.2.2) : fitE b l (layP l order) = if lenP l (layP l order) ≤ b.2.2 then 0 else 32 := by
 obtain ⟨h1, h2⟩ := layP_fits l order
 obtain ⟨m1, m2⟩ := most_ge (l := l) (plan := layP l order)
 obtain ⟨n1, n2, n3⟩ := len_ge (l := l) (plan := layP l order)
 by_cases hle : lenP l (layP l order) ≤ b.2.2
 ·rw [if_pos hle]
  refine (fitG_zero _ _).2 ⟨fun x hx => ?_, h1⟩
  have a1 := hr x hx
  have a2 := h2 x hx
  have a3 := m2 x hx
  unfold outB
  rw [decide_eq_false (by omega), decide_eq_false (by omega), decide_eq_false (by omega)]
  rfl
 ·rw [if_neg hle]
  refine fitG_out _ _ h1 ?_
  rcases most_at l (layP l order) with h | ⟨x, hx, h⟩
  ·omega
  ·refine ⟨x, hx, ?_⟩
   unfold outB
   rw [decide_eq_true (show 2 * b.2.2 < (endsP (pcP l x)).2 + x.2.2 by omega), Bool.or_true, Bool.or_true]
def ordG (n : Nat) : Nat → List Plc → List (List Plc)
 | 0, begin_ => [begin_]
 | k + 1, begin_ => (List.range n).flatMap fun (i : Nat) => if begin_.any (fun x => decide (x.1 = (i : Int))) then [] else ordG n k (begin_ ++ [((i : Int), false, 0)]) ++ ordG n k (begin_ ++ [((i : Int), true, 0)])
def ordP (n : Nat) : List (List Plc) := ordG n n []
theorem ordG_mem (n : Nat) : ∀ (k : Nat) (begin_ r : List Plc), r.length = k → (∀ x ∈ r, ∃ i : Nat, i < n ∧ x = ((i : Int), x.2.1, 0)) → ((begin_ ++ r).map (·.1)).Nodup → begin_ ++ r ∈ ordG n k begin_
 | 0, begin_, r, hl, _, _ => by
  have : r = [] := List.eq_nil_of_length_eq_zero hl
  subst this
  simp [ordG]
 | k + 1, begin_, [], hl, _, _ => by simp at hl
 | k + 1, begin_, x :: r, hl, hx, hd => by
  obtain ⟨i, hi, e⟩ := hx x (List.mem_cons_self ..)
  have hn : begin_.any (fun z => decide (z.1 = (i : Int))) = false := by
   rw [List.any_eq_false]
   intro z hz
   simp only [decide_eq_true_eq]
   intro h
   rw [List.map_append, List.nodup_append] at hd
   exact hd.2.2 z.1 (List.mem_map.2 ⟨z, hz, rfl⟩) x.1 (List.mem_map.2 ⟨x, List.mem_cons_self .., rfl⟩) (by rw [h, e])
  have ih := ordG_mem n k (begin_ ++ [x]) r (by simpa using hl) (fun z hz => hx z (List.mem_cons_of_mem _ hz)) (by simpa using hd)
  rw [ordG, List.mem_flatMap]
  refine ⟨i, List.mem_range.2 hi, ?_⟩
  rw [if_neg (by rw [hn]; decide), List.mem_append]
  have e2 : begin_ ++ x :: r = (begin_ ++ [x]) ++ r := by simp
  rw [e2]
  cases hb : x.2.1
  ·refine .inl ?_
   rw [show ((i : Int), false, (0 : Int)) = x by rw [e, hb]]
   exact ih
  ·refine .inr ?_
   rw [show ((i : Int), true, (0 : Int)) = x by rw [e, hb]]
   exact ih
theorem ordG_in (n : Nat) : ∀ (k : Nat) (begin_ o : List Plc), o ∈ ordG n k begin_ → ∃ r, o = begin_ ++ r ∧ r.length = k ∧ ∀ x ∈ r, ∃ i : Nat, i < n ∧ x.1 = (i : Int)
 | 0, begin_, o, h => by
  simp only [ordG, List.mem_singleton] at h
  exact ⟨[], by simp [h], rfl, by simp⟩
 | k + 1, begin_, o, h => by
  rw [ordG, List.mem_flatMap] at h
  obtain ⟨i, hi, h⟩ := h
  have hi := List.mem_range.1 hi
  split at h
  ·cases h
  ·rcases List.mem_append.1 h with h | h
   ·obtain ⟨r, rfl, hl, hx⟩ := ordG_in n k _ o h
    refine ⟨((i : Int), false, 0) :: r, by simp, by simp [hl], fun x hx' => ?_⟩
    rcases List.mem_cons.1 hx' with rfl | hx'
    ·exact ⟨i, hi, rfl⟩
    ·exact hx x hx'
   ·obtain ⟨r, rfl, hl, hx⟩ := ordG_in n k _ o h
    refine ⟨((i : Int), true, 0) :: r, by simp, by simp [hl], fun x hx' => ?_⟩
    rcases List.mem_cons.1 hx' with rfl | hx'
    ·exact ⟨i, hi, rfl⟩
    ·exact hx x hx'
def bestS (b : Bal) (l : List Pan) (a : Option (List Plc × Int)) (o : List Plc) : Option (List Plc × Int) :=
 if fitE b l (layP l o) = 0 ∧ (∀ z, a = some z → lenP l (layP l o) < z.2) then some (layP l o, lenP l (layP l o)) else a
instance (a : Option (List Plc × Int)) (n : Int) : Decidable (∀ z, a = some z → n < z.2) := by
 cases a with
 | none => exact isTrue (by simp)
 | some z => exact decidable_of_iff (n < z.2) ⟨fun h y e => by cases e; exact h, fun h => h z rfl⟩
def bestP (b : Bal) (l : List Pan) : Option (List Plc × Int) := (ordP l.length).foldl (bestS b l) none
theorem best_fold (b : Bal) (l : List Pan) : ∀ (os : List (List Plc)) (a : Option (List Plc × Int)) (x : List Plc) (n : Int), os.foldl (bestS b l) a = some (x, n) →
  (a = some (x, n) ∨ ∃ o ∈ os, x = layP l o ∧ n = lenP l x ∧ fitE b l x = 0) ∧ (∀ z, a = some z → n ≤ z.2) ∧ ∀ o ∈ os, fitE b l (layP l o) = 0 → n ≤ lenP l (layP l o)
 | [], a, x, n, h => by
  have h : a = some (x, n) := h
  exact ⟨.inl h, fun z hz => by rw [h] at hz; cases hz; exact Int.le_refl _, fun o ho => by cases ho⟩
 | o :: r, a, x, n, h => by
  rw [List.foldl_cons] at h
  obtain ⟨h1, h2, h3⟩ := best_fold b l r _ x n h
  by_cases hc : fitE b l (layP l o) = 0 ∧ (∀ z, a = some z → lenP l (layP l o) < z.2)
  ·have e : bestS b l a o = some (layP l o, lenP l (layP l o)) := if_pos hc
   rw [e] at h1 h2
   have h4 := h2 _ rfl
   simp only at h4
   refine ⟨?_, fun z hz => ?_, fun p hp hf => ?_⟩
   ·rcases h1 with h1 | ⟨p, hp, h1⟩
    ·injection h1 with h1
     injection h1 with e1 e2
     exact .inr ⟨o, List.mem_cons_self .., e1.symm, by rw [← e2, ← e1], by rw [← e1]; exact hc.1⟩
    ·exact .inr ⟨p, List.mem_cons_of_mem _ hp, h1⟩
   ·have := hc.2 z hz
    omega
   ·rcases List.mem_cons.1 hp with rfl | hp
    ·exact h4
    ·exact h3 p hp hf
  ·have e : bestS b l a o = a := if_neg hc
   rw [e] at h1 h2
   refine ⟨?_, h2, fun p hp hf => ?_⟩
   ·rcases h1 with h1 | ⟨p, hp, h1⟩
    ·exact .inl h1
    ·exact .inr ⟨p, List.mem_cons_of_mem _ hp, h1⟩
   ·rcases List.mem_cons.1 hp with rfl | hp
    ·refine Classical.byContradiction fun q => hc ⟨hf, fun z hz => ?_⟩
     have := h2 z hz
     omega
    ·exact h3 p hp hf
theorem best_none (b : Bal) (l : List Pan) : ∀ (os : List (List Plc)) (a : Option (List Plc × Int)), os.foldl (bestS b l) a = none → a = none ∧ ∀ o ∈ os, fitE b l (layP l o) ≠ 0
 | [], a, h => ⟨h, fun o ho => by cases ho⟩
 | o :: r, a, h => by
  rw [List.foldl_cons] at h
  obtain ⟨h1, h2⟩ := best_none b l r _ h
  have hc : ¬ (fitE b l (layP l o) = 0 ∧ (∀ z, a = some z → lenP l (layP l o) < z.2)) := fun hc => by
   have e : bestS b l a o = some (layP l o, lenP l (layP l o)) := if_pos hc
   rw [e] at h1
   cases h1
  have e : bestS b l a o = a := if_neg hc
  rw [e] at h1
  refine ⟨h1, fun p hp => ?_⟩
  rcases List.mem_cons.1 hp with rfl | hp
  ·intro hf
   exact hc ⟨hf, fun z hz => by rw [h1] at hz; cases hz⟩
  ·exact h2 p hp
theorem best_same (b c : Bal) (l : List Pan) (N : Int) (hN : ∀ z, bestP b l = some z → z.2 = N) (hb : ∀ o, o ∈ ordP l.length → fitE b l (layP l o) = 0) (hc : ∀ o, o ∈ ordP l.length → (fitE c l (layP l o) = 0 ↔ lenP l (layP l o) ≤ N)) (hs : (bestP b l).isSome) : bestP c l = bestP b l := by
 have key : ∀ (os : List (List Plc)) (a a' : Option (List Plc × Int)), (∀ o ∈ os, o ∈ ordP l.length) → ((a' = a ∧ ∀ z, a = some z → z.2 ≤ N) ∨ (a' = none ∧ ∀ z, a = some z → N < z.2)) → (∀ z, os.foldl (bestS b l) a = some z → z.2 = N) → (os.foldl (bestS b l) a).isSome → os.foldl (bestS c l) a' = os.foldl (bestS b l) a := by
  intro os
  induction os with
  | nil =>
   intro a a' _ h hz hsome
   rcases h with ⟨h, _⟩ | ⟨_, h⟩
   ·exact h
   ·exfalso
    cases a with
    | none => simp at hsome
    | some z =>
     have h1 := h z rfl
     have h2 := hz z rfl
     omega
  | cons o r ih =>
   intro a a' hm h hz hsome
   rw [List.foldl_cons, List.foldl_cons]
   rw [List.foldl_cons] at hz hsome
   have ho := hm o (List.mem_cons_self ..)
   refine ih _ _ (fun p hp => hm p (List.mem_cons_of_mem _ hp)) ?_ hz hsome
   have fb := hb o ho
   have fc := hc o ho
   rcases h with ⟨rfl, h⟩ | ⟨rfl, h⟩
   ·by_cases hle : lenP l (layP l o) ≤ N
    ·left
     refine ⟨by unfold bestS; simp only [fb, fc.2 hle], fun z hz' => ?_⟩
     unfold bestS at hz'
     split at hz'
     ·cases hz'; exact hle
     ·exact h z hz'
    ·have e : bestS c l a' o = a' := if_neg fun q => hle (fc.1 q.1)
     rw [e]
     by_cases hq : ∀ z, a' = some z → lenP l (layP l o) < z.2
     ·right
      have e2 : bestS b l a' o = some (layP l o, lenP l (layP l o)) := if_pos ⟨fb, hq⟩
      rw [e2]
      refine ⟨?_, fun z hz' => by cases hz'; simp only; omega⟩
      cases a' with
      | none => rfl
      | some z =>
       exfalso
       have h1 := h z rfl
       have h2 := hq z rfl
       omega
     ·left
      have e2 : bestS b l a' o = a' := if_neg fun q => hq q.2
      rw [e2]
      exact ⟨rfl, h⟩
   ·by_cases hle : lenP l (layP l o) ≤ N
    ·left
     have e1 : bestS c l none o = some (layP l o, lenP l (layP l o)) := if_pos ⟨fc.2 hle, fun z hz' => by cases hz'⟩
     have e2 : bestS b l a o = some (layP l o, lenP l (layP l o)) := if_pos ⟨fb, fun z hz' => by have := h z hz'; omega⟩
     rw [e1, e2]
     exact ⟨rfl, fun z hz' => by cases hz'; exact hle⟩
    ·right
     refine ⟨if_neg fun q => hle (fc.1 q.1), fun z hz' => ?_⟩
     unfold bestS at hz'
     split at hz'
     ·cases hz'; simp only; omega
     ·exact h z hz'
 exact key _ none none (fun o h => h) (.inl ⟨rfl, fun z hz => by cases hz⟩) hN hs
theorem used_len (l : List Pan) (plan : List Plc) : usedP l plan = ((allNp l plan).length : Int) := by
 have h : ∀ (r : List Plc) (m : Int), r.foldl (fun m x => m + ((netL (pcP l x)).length : Int)) m = m + ((allNp l r).length : Int) := by
  intro r
  induction r with
  | nil => intro m; simp [allNp]
  | cons x t ih =>
   intro m
   rw [List.foldl_cons, ih]
   unfold allNp
   rw [List.flatMap_cons, List.length_append]
   unfold pnet
   rw [List.length_map]
   omega
 have := h plan 0
 unfold usedP
 rw [this]
 omega
theorem plan_sheet {b : Bal} {l : List Pan} {plan : List Plc} (hok : ∀ x ∈ plan, PanOk (pcP l x)) (he : EvnP plan) (hf : fitE b l plan = 0) {c r : Nat} (hc : mostE l plan ≤ 2 * (c : Int)) (hr : ∀ x ∈ plan, (stP l x).length ≤ r) : ∀ z ∈ allNp l plan, z ∈ shN 0 0 c r := by
 obtain ⟨h1, _⟩ := (fitG_zero _ _).1 hf
 intro z hz
 obtain ⟨x, hx, hzx⟩ := List.mem_flatMap.1 hz
 have ho := h1 x hx
 unfold outB at ho
 simp only [Bool.or_eq_false_iff, decide_eq_false_iff_not] at ho
 have hm := (most_ge (l := l) (plan := plan)).2 x hx
 exact pnet_sheet (hok x hx) (he x hx) (by omega) (by omega) (hr x hx) hzx
theorem plan_nodup {b : Bal} {l : List Pan} {plan : List Plc} (hm : ∀ o x : Plc, o ∈ plan → x ∈ plan → 0 < minL (stP l o) (stP l x)) (he : EvnP plan) (hf : fitE b l plan = 0) : (allNp l plan).Nodup := by
 obtain ⟨_, h2⟩ := (fitG_zero _ _).1 hf
 have key : ∀ (r done : List Plc), (∀ x ∈ done ++ r, x ∈ plan) → EvnP (done ++ r) → (allNp l done).Nodup → Fits l done r → (allNp l (done ++ r)).Nodup := by
  intro r
  induction r with
  | nil => intro done _ _ h _; rw [List.append_nil]; exact h
  | cons x t ih =>
   intro done hp he h hf
   have hx : (allNp l (done ++ [x])).Nodup := by
    unfold allNp
    rw [List.flatMap_append, List.nodup_append]
    refine ⟨h, by simpa using pnet_nodup l x, fun a ha b hb e => ?_⟩
    subst e
    obtain ⟨o, ho, hao⟩ := List.mem_flatMap.1 ha
    have e1 := he o (List.mem_append.2 (.inl ho))
    have e2 := he x (by simp)
    exact pnet_apart (hm o x (hp o (List.mem_append.2 (.inl ho))) (hp x (by simp))) (by omega) (hf.1 o ho) hao (by simpa using hb)
   have := ih (done ++ [x]) (by simpa using hp) (by simpa using he) hx hf.2
   simpa using this
 exact key plan [] (by simp) (by simpa using he) (by simp [allNp]) h2
theorem xs_turn {p : Pan} (ok : PanOk p) : ∀ x, x ∈ xsP (trnP p) ↔ ∃ y ∈ xsP p, x = topX p true - y := by
 have o1 : outP (trnP p) false = (outP p true).reverse.map (rotK (topC p)) := trn_out ok true
 have o2 : outP (trnP p) true = (outP p false).reverse.map (rotK (topC p)) := trn_out ok false
 intro x
 unfold xsP
 rw [o1, o2]
 simp only [List.map_append, List.mem_append, List.mem_map, List.mem_reverse]
 constructor
 ·rintro (⟨k, ⟨j, hj, rfl⟩, rfl⟩ | ⟨k, ⟨j, hj, rfl⟩, rfl⟩)
  ·exact ⟨j.1, .inr ⟨j, hj, rfl⟩, rfl⟩
  ·exact ⟨j.1, .inl ⟨j, hj, rfl⟩, rfl⟩
 ·rintro ⟨y, ⟨j, hj, rfl⟩ | ⟨j, hj, rfl⟩, rfl⟩
  ·exact .inr ⟨_, ⟨j, hj, rfl⟩, rfl⟩
  ·exact .inl ⟨_, ⟨j, hj, rfl⟩, rfl⟩
theorem ends_turn {p : Pan} (ok : PanOk p) (h : ∀ x ∈ xsP p, -1000000 ≤ x ∧ x ≤ 1000000) (ht : -1000000 ≤ topX p true ∧ topX p true ≤ 1000000) : endsP (trnP p) = (topX p true - (endsP p).2, topX p true - (endsP p).1) := by
 obtain ⟨m1, m2⟩ := ends_mem (p := p) fun x hx => by have := h x hx; omega
 have hx : ∀ x ∈ xsP (trnP p), -999999999 ≤ x ∧ x ≤ 999999999 := fun x hx => by
  obtain ⟨y, hy, rfl⟩ := (xs_turn ok x).1 hx
  have := h y hy
  omega
 obtain ⟨n1, n2⟩ := ends_mem (p := trnP p) hx
 obtain ⟨y1, hy1, e1⟩ := (xs_turn ok _).1 n1
 obtain ⟨y2, hy2, e2⟩ := (xs_turn ok _).1 n2
 have a1 := ends_in hy1
 have a2 := ends_in hy2
 have b1 := ends_in ((xs_turn ok _).2 ⟨_, m1, rfl⟩)
 have b2 := ends_in ((xs_turn ok _).2 ⟨_, m2, rfl⟩)
 exact Prod.ext (by simp only; omega) (by simp only; omega)
def candP (l : List Pan) (plan : List Plc) (i : Nat) (t : Bool) : List Plc := plan ++ [nextP l plan ((i : Int), t, 0)]
def onB (b : Bal) (l : List Pan) (plan : List Plc) (i : Nat) : Option (List Plc) :=
 if fitE b l (candP l plan i true) = 0 ∧ (fitE b l (candP l plan i false) ≠ 0 ∨ lenP l (candP l plan i true) < lenP l (candP l plan i false)) then some (candP l plan i true)
 else if fitE b l (candP l plan i false) = 0 then some (candP l plan i false) else none
theorem onB_some {b : Bal} {l : List Pan} {plan q : List Plc} {i : Nat} (h : onB b l plan i = some q) : fitE b l q = 0 ∧ ∃ t, q = candP l plan i t := by
 unfold onB at h
 split at h
 ·rename_i hc
  injection h with h
  subst h
  exact ⟨hc.1, true, rfl⟩
 ·split at h
  ·rename_i hc
   injection h with h
   subst h
   exact ⟨hc, false, rfl⟩
  ·cases h
def putB (l : List Pan) (i : Nat) : List Bal → List (List Plc) → Option (List (List Plc))
 | b :: bs, p :: ps => match onB b l p i with
  | some q => some (q :: ps)
  | none => (putB l i bs ps).map fun r => p :: r
 | _, _ => none
def packG (stock : List Bal) (l : List Pan) (a : Option (List (List Plc))) (i : Nat) : Option (List (List Plc)) := a.bind fun ps => putB l i stock ps
def packP (stock : List Bal) (l : List Pan) : Option (List (List Plc)) := (List.range l.length).foldl (packG stock l) (some (List.replicate stock.length []))
def idsP (p : List Plc) : List Int := p.map (·.1)
theorem plcG_zero {n : Nat} : ∀ (r done : List Plc), (idsP (done ++ r)).Nodup → (∀ x ∈ r, (0 ≤ x.1 ∧ x.1 < (n : Int)) ∧ atE_ x.2.2 = 0) → plcG n done r = 0
 | [], _, _, _ => rfl
 | x :: r, done, hn, h => by
  have hx := h x (List.mem_cons_self ..)
  have ha : (done.any fun o => decide (o.1 = x.1)) = false := by
   rw [Bool.eq_false_iff]
   intro hc
   rw [List.any_eq_true] at hc
   obtain ⟨o, ho, e⟩ := hc
   rw [decide_eq_true_eq] at e
   unfold idsP at hn
   rw [List.map_append] at hn
   exact (List.nodup_append.1 hn).2.2 _ (List.mem_map_of_mem ho) _ (List.mem_map_of_mem (List.mem_cons_self ..)) e
  have e1 : plcE1 n done x = 0 := by
   have : (decide (x.1 < 0) || decide ((n : Int) ≤ x.1)) = false := by
    simp only [Bool.or_eq_false_iff, decide_eq_false_iff_not]
    omega
   unfold plcE1
   rw [this, ha, hx.2]
   rfl
  rw [plcG, if_pos e1]
  exact plcG_zero r _ (by rw [List.append_assoc]; exact hn) fun y hy => h y (List.mem_cons_of_mem _ hy)
theorem plc_zero {n : Nat} {p : List Plc} (hl : p.length ≤ 16) (hn : (idsP p).Nodup) (h : ∀ x ∈ p, (0 ≤ x.1 ∧ x.1 < (n : Int)) ∧ atE_ x.2.2 = 0) : plcE n p = 0 := by
 unfold plcE
 rw [if_neg (by omega)]
 exact plcG_zero p [] hn h
theorem atE_zero {a : Int} (h : -100000 ≤ a ∧ a ≤ 100000) (he : a % 2 = 0) : atE_ a = 0 := by
 have h1 : withinI a (-100000) 100000 = 0 := by
  unfold withinI whenI
  rw [if_neg]
  simp only [Bool.or_eq_true, decide_eq_true_eq, not_or]
  omega
 have h2 : decide (a % 2 ≠ 0) = false := by simp [he]
 unfold atE_
 rw [h1, h2]
 rfl
theorem box_xs {p : Pan} {m M : Int} (h : Box p m M) : ∀ x ∈ xsP p, m ≤ x ∧ x ≤ M := by
 intro x hx
 unfold xsP at hx
 rw [List.map_append, List.mem_append, List.mem_map, List.mem_map] at hx
 rcases hx with ⟨k, hk, rfl⟩ | ⟨k, hk, rfl⟩
 ·exact h.left k hk
 ·exact h.right k hk
theorem box_ends {p : Pan} {m M : Int} (h : Box p m M) (h0 : -999999 ≤ m ∧ M ≤ 999999) : m ≤ (endsP p).1 ∧ (endsP p).1 ≤ (endsP p).2 ∧ (endsP p).2 ≤ M := by
 have hx := box_xs h
 obtain ⟨m1, m2⟩ := ends_mem (p := p) fun x hx' => by have := hx x hx'; omega
 have a1 := hx _ m1
 have a2 := hx _ m2
 have := ends_in m1
 omega
theorem gap_near {a b : Pan} (ha : PanOk a) (hb : PanOk b) {m M : Int} (ba : Box a m M) (bb : Box b m M) (h0 : -999999 ≤ m ∧ M ≤ 999999) : m - M ≤ gapB (strips a) (strips b) ∧ gapB (strips a) (strips b) ≤ M - m + 2 := by
 have e1 := box_ends ba h0
 have e2 := box_ends bb h0
 have h1 := gap_ge ha hb
 refine ⟨by omega, ?_⟩
 have hm := minL_pos ha hb
 have he : evnI (M - m + 1) % 2 = 0 := by unfold evnI; omega
 have : gapB (strips a) (strips b) ≤ evnI (M - m + 1) := by
  refine (apt_iff hm he).1 fun i hi => ?_
  have i1 : i < (strips a).length := by unfold minL at hi; omega
  have i2 : i < (strips b).length := by unfold minL at hi; omega
  obtain ⟨s1, s2, s3, s4⟩ := strip_xs ha i1
  obtain ⟨t1, t2, t3, t4⟩ := strip_xs hb i2
  have x1 := box_xs ba _ s2
  have x2 := box_xs ba _ s4
  have x3 := box_xs bb _ t1
  have x4 := box_xs bb _ t3
  rw [stG_at i1, stG_at i2]
  unfold aptS needS evnI
  simp only
  omega
 unfold evnI at this
 omega
def Pcs (l : List Pan) : Prop := ∀ p ∈ l, Small p 8 ∧ panE p = 0 ∧ panE (trnP p) = 0
def InP (l : List Pan) (x : Plc) : Prop := 0 ≤ x.1 ∧ x.1 < (l.length : Int)
theorem pcs_of {l : List Pan} (h : pieE l = 0) (hs : ∀ p ∈ l, shortP p 8 = true) : Pcs l := by
 have key : ∀ (r done : List Pan), pieG done r = 0 → ∀ p ∈ r, panE p = 0 ∧ panE (trnP p) = 0 := by
  intro r
  induction r with
  | nil => intro _ _ p hp; cases hp
  | cons q t ih =>
   intro done h p hp
   rw [pieG] at h
   split at h
   ·rename_i hc
    rcases List.mem_cons.1 hp with rfl | hp
    ·unfold pieE1 at hc
     simp only [firstI] at hc
     split at hc
     ·rename_i h1
      split at hc
      ·split at hc
       ·rename_i h3
        exact ⟨h1, h3⟩
       ·rename_i h3; exact absurd hc h3
      ·rename_i h2; exact absurd hc h2
     ·rename_i h1; exact absurd hc h1
    ·exact ih _ h p hp
   ·rename_i hc; exact absurd h hc
 unfold pieE at h
 split at h
 ·cases h
 ·intro p hp
  obtain ⟨h1, h2⟩ := key l [] h p hp
  exact ⟨shortP_small (hs p hp) (panE_zero h1), h1, h2⟩
theorem pc_cases {l : List Pan} {x : Plc} (h : InP l x) : ∃ p ∈ l, pcP l x = if x.2.1 then trnP p else p := by
 have hi : x.1.toNat < l.length := by unfold InP at h; omega
 refine ⟨l[x.1.toNat], List.getElem_mem _, ?_⟩
 unfold pcP
 rw [List.getD_eq_getElem?_getD, List.getElem?_eq_getElem hi]
 rfl
def PcsV (l : List Pan) : Prop := ∀ p ∈ l, panE p = 0 ∧ panE (trnP p) = 0
theorem Pcs.v {l : List Pan} (h : Pcs l) : PcsV l := fun p hp => (h p hp).2
theorem PcsV.pc {l : List Pan} (h : PcsV l) {x : Plc} (hx : InP l x) : panE (pcP l x) = 0 := by
 obtain ⟨p, hp, e⟩ := pc_cases hx
 obtain ⟨h1, h2⟩ := h p hp
 rw [e]
 split
 ·exact h2
 ·exact h1
theorem PcsV.ok {l : List Pan} (h : PcsV l) {x : Plc} (hx : InP l x) : PanOk (pcP l x) := panE_zero (h.pc hx)
theorem PcsV.min {l : List Pan} (h : PcsV l) {o x : Plc} (ho : InP l o) (hx : InP l x) : 0 < minL (stP l o) (stP l x) := minL_pos (h.ok ho) (h.ok hx)
theorem ends_wide {p : Pan} (ok : PanOk p) : -4096 ≤ (endsP p).1 ∧ (endsP p).1 + 2 ≤ (endsP p).2 ∧ (endsP p).2 ≤ 4096 := by
 have e := box_ends ok.box (by omega)
 have a1 : (fromP p false).1 ∈ xsP p := by
  unfold xsP
  rw [List.map_append, List.mem_append]
  exact .inl (List.mem_map_of_mem (outK_head _ _ _))
 have a2 : (fromP p true).1 ∈ xsP p := by
  unfold xsP
  rw [List.map_append, List.mem_append]
  exact .inr (List.mem_map_of_mem (outK_head _ _ _))
 have b1 := ends_in a1
 have b2 := ends_in a2
 have hw := ok.wid
 have c1 : (fromP p false).1 = 0 := rfl
 have c2 : (fromP p true).1 = 2 * p.2.1 := rfl
 omega
theorem PcsV.ends {l : List Pan} (h : PcsV l) {x : Plc} (hx : InP l x) : -4096 ≤ (endsP (pcP l x)).1 ∧ (endsP (pcP l x)).1 + 2 ≤ (endsP (pcP l x)).2 ∧ (endsP (pcP l x)).2 ≤ 4096 := ends_wide (h.ok hx)
theorem turn_box {p : Pan} (ok : PanOk p) {m M t : Int} (h : Box p m M) (ht : topX p true = t) : ∀ x ∈ xsP (trnP p), t - M ≤ x ∧ x ≤ t - m := by
 intro x hx
 obtain ⟨y, hy, rfl⟩ := (xs_turn ok x).1 hx
 have := box_xs h y hy
 omega
theorem xs_box {p : Pan} {m M : Int} (h : ∀ x ∈ xsP p, m ≤ x ∧ x ≤ M) : Box p m M := by
 have hx : ∀ x, x ∈ xsP p ↔ x ∈ (outP p false).map (·.1) ∨ x ∈ (outP p true).map (·.1) := fun x => by
  unfold xsP
  rw [List.map_append, List.mem_append]
 exact ⟨fun k hk => h _ ((hx _).2 (.inl (List.mem_map_of_mem hk))), fun k hk => h _ ((hx _).2 (.inr (List.mem_map_of_mem hk)))⟩
theorem Pcs.pc {l : List Pan} (h : Pcs l) {x : Plc} (hx : InP l x) : PanOk (pcP l x) ∧ Box (pcP l x) (-64) 64 := by
 obtain ⟨p, hp, e⟩ := pc_cases hx
 obtain ⟨h1, h2, h3⟩ := h p hp
 rw [e]
 have hb := h1.box
 have ht := h1.top true
 split
 ·exact ⟨panE_zero h3, xs_box fun y hy => by have := turn_box h1.ok hb rfl y hy; omega⟩
 ·exact ⟨h1.ok, xs_box fun y hy => by have := box_xs hb y hy; omega⟩
theorem Pcs.gap {l : List Pan} (h : Pcs l) {o x : Plc} (ho : InP l o) (hx : InP l x) : -128 ≤ gapB (stP l o) (stP l x) ∧ gapB (stP l o) (stP l x) ≤ 130 := by
 have := gap_near (h.pc ho).1 (h.pc hx).1 (h.pc ho).2 (h.pc hx).2 (by omega)
 exact ⟨by have := this.1; unfold stP; omega, by have := this.2; unfold stP; omega⟩
theorem Pcs.ends {l : List Pan} (h : Pcs l) {x : Plc} (hx : InP l x) : -64 ≤ (endsP (pcP l x)).1 ∧ (endsP (pcP l x)).1 + 2 ≤ (endsP (pcP l x)).2 ∧ (endsP (pcP l x)).2 ≤ 64 := by
 obtain ⟨h1, h2⟩ := h.pc hx
 have e := box_ends h2 (by omega)
 have := ends_wide h1
 omega
theorem lay_near {l : List Pan} (h : Pcs l) : ∀ (r out : List Plc), (∀ x ∈ out ++ r, InP l x) → (∀ x ∈ out, -64 ≤ x.2.2 ∧ x.2.2 ≤ 130 * (out.length : Int) - 65) → ∀ x ∈ r.foldl (fun out x => out ++ [nextP l out x]) out, -64 ≤ x.2.2 ∧ x.2.2 ≤ 130 * ((out.length : Int) + r.length) - 65
 | [], out, _, ho => by
  intro x hx
  have := ho x hx
  simp only [List.length_nil]
  omega
 | y :: r, out, hi, ho => by
  have hy : InP l y := hi y (by simp)
  rw [List.foldl_cons]
  have hn : -64 ≤ nextA l out y ∧ nextA l out y ≤ 130 * ((out.length : Int) + 1) - 65 := by
   have e := h.ends hy
   have s := next_start (l := l) (plan := out) (x := y)
   refine ⟨by omega, ?_⟩
   unfold nextA
   refine (fold_max_ge (f := fun o => o.2.2 + gapB (stP l o) (stP l y)) out _ _).2 ⟨by unfold evnI; omega, fun o hm => ?_⟩
   have := ho o hm
   have := h.gap (hi o (List.mem_append.2 (.inl hm))) hy
   omega
  have := lay_near h r (out ++ [nextP l out y]) (fun x hx => by
   rcases List.mem_append.1 hx with hx | hx
   ·rcases List.mem_append.1 hx with hx | hx
    ·exact hi x (List.mem_append.2 (.inl hx))
    ·rw [List.mem_singleton] at hx
     subst hx
     exact hy
   ·exact hi x (by simp [hx])) (fun x hx => by
   rw [List.length_append, List.length_singleton]
   rcases List.mem_append.1 hx with hx | hx
   ·have := ho x hx
    omega
   ·rw [List.mem_singleton] at hx
    subst hx
    unfold nextP
    simp only
    omega)
  intro x hx
  have := this x hx
  rw [List.length_append, List.length_singleton] at this
  rw [List.length_cons]
  omega
theorem lay_in {l : List Pan} {order : List Plc} (hi : ∀ x ∈ order, InP l x) : ∀ x ∈ layP l order, InP l x := by
 intro x hx
 have : (x.1, x.2.1) ∈ (layP l order).map fun x => (x.1, x.2.1) := List.mem_map_of_mem (f := fun x : Plc => (x.1, x.2.1)) hx
 rw [layP_same, List.mem_map] at this
 obtain ⟨y, hy, e⟩ := this
 have := hi y hy
 unfold InP at this ⊢
 injection e with e1 e2
 omega
theorem lay_len {l : List Pan} (h : Pcs l) {order : List Plc} (hi : ∀ x ∈ order, InP l x) (hne : order ≠ []) (h3 : order.length ≤ 3) : 1 ≤ lenP l (layP l order) ∧ lenP l (layP l order) ≤ 200 := by
 have hin := lay_in hi
 have hl := layP_len l order
 have hm := most_ge (l := l) (plan := layP l order)
 obtain ⟨y, hy⟩ : ∃ y, y ∈ layP l order := by
  cases e : layP l order with
  | nil => rw [e] at hl; exact absurd (List.eq_nil_of_length_eq_zero hl.symm) hne
  | cons y t => exact ⟨y, List.mem_cons_self ..⟩
 have e1 := h.ends (hin y hy)
 have e2 := (layP_fits l order).2 y hy
 have e3 := hm.2 y hy
 have hb : mostE l (layP l order) ≤ 389 := by
  refine most_le (by omega) fun x hx => ?_
  have a := h.ends (hin x hx)
  have b := lay_near h order [] hi (fun x hx => by cases hx) x hx
  simp only [List.length_nil] at b
  omega
 unfold lenP
 omega
end Go.Proofs.YtpcgeihemkhkjaaGreatDoor

/- Bound, walked. Conditions: bounds. -/
import Derived.Test.YtpcgeihemkhkjaaGreatDoorS30
import Derived.Test.YtpcgeihemkhkjaaGreatDoorS37
import Derived.Test.YtpcgeihemkhkjaaGreatDoorS35
import Derived.Test.YtpcgeihemkhkjaaGreatDoorS38
import Derived.Test.YtpcgeihemkhkjaaGreatDoorS31
import Derived.Test.YtpcgeihemkhkjaaGreatDoorS36
import Derived.Test.YtpcgeihemkhkjaaGreatDoorS33
import Derived.Test.YtpcgeihemkhkjaaGreatDoorS15
import Derived.Test.YtpcgeihemkhkjaaGreatDoorS24
import Derived.Test.YtpcgeihemkhkjaaGreatDoorS20
import Derived.Test.YtpcgeihemkhkjaaGreatDoorS23
namespace Go.Proofs.YtpcgeihemkhkjaaGreatDoor
open Go.RowKit Go.ChangeMaps
set_option maxHeartbeats 4000000
set_option maxRecDepth 100000
attribute [local go_sem] Oper.semAt_some
theorem Zq8 (n d : Int) (hn : 0 ≤ n ∧ n ≤ 1000000000) (hd : 1 ≤ d ∧ d ≤ 1000000) (w : World) : Calls Tryz.prog 68 #[.int .i64 n, .int .i64 d] w (RV w (.int .i64 (upI n d))) := by
 have hq : (n + d - 1).tdiv d = (n + d - 1) / d := Int.tdiv_eq_ediv_of_nonneg (by omega)
 have h1 := Int.ediv_nonneg (show 0 ≤ n + d - 1 by omega) (show 0 ≤ d by omega)
 have h2 := Int.ediv_le_self d (show 0 ≤ n + d - 1 by omega)
 have r1 : (d == 0) = false := by simp; omega
 have HU : Hid (upI n d = (n + d - 1) / d) := rfl
 go_enter Tryz.func68, Tryz.ntmps68
 go_wp2
 go_ret
 exact ⟨by rw [HU.out]; rfl, by (repeat first|exact J0|assumption|(apply J1;assumption)|apply J2|apply J3|apply J4)⟩
theorem Zq9 {w0 : World} (x : PcV) (p : Pan) (h : PcAt w0 x p) (hg : Zlb p) (w : World) : Calls Tryz.prog 67 #[.agg #[slV x.1.1, .int .i64 x.1.2.1, .int .i64 x.1.2.2.1, slV x.1.2.2.2, slV x.2.1, .int .i64 x.2.2.1, .int .i64 x.2.2.2.1, slV x.2.2.2.2]] w (RV w (.int .i64 (widP p))) := by
 obtain ⟨⟨⟨p0, p1, p2⟩, p3, p4, ⟨p5, p6, p7⟩⟩, ⟨⟨q0, q1, q2⟩, q3, q4, ⟨q5, q6, q7⟩⟩⟩ := x
 have h1 := h.up.lo
 have h2 := h.up.hi
 simp only at h1 h2
 have g1 := hg.lo
 have g2 := hg.mid
 have g3 := hg.hi
 have HW : Hid (widP p = upI (p4 - p3) 2) := by unfold Hid widP; rw [h1, h2]
 rw [← h1] at g1 g2
 rw [← h2] at g2 g3
 have hu := fun W => Zq8 (p4 - p3) 2 (by omega) (by omega) W
 rw [← HW.out] at hu
 simp only [slV]
 have hK := Blk.new w 123 #[.slice p0 p1 p2, .int .i64 p3, .int .i64 p4, .slice p5 p6 p7, .slice q0 q1 q2, .int .i64 q3, .int .i64 q4, .slice q5 q6 q7]
 have fK := hK.facts
 clear h h1 h2 hg HW
 go_enter Tryz.func67, Tryz.ntmps67
 go_wp2_with fail
 refine (hu _).mono ?_
 rintro e w2 ⟨rfl, hb2⟩
 go_wp2
 go_ret
 exact ⟨rfl, by (repeat first|exact J0|assumption|(apply J1;assumption)|apply J2|apply J3|apply J4)⟩
theorem Zqa {v : Value} (l : List Pan) (w : World) (h : SlW w v l) (hl : l.length ≤ 16) (hk : PieL l) : Calls Tryz.prog 66 #[v, .func (.func 67) #[] #[]] w (RG ic 1 3 w (l.map widP)) := by
 obtain ⟨xs, ⟨A, c, rfl, hlc, hcm, hr⟩, hx⟩ := h
 have HLN := Lib.hid hx.len
 have hl1 : xs.length ≤ l.length := Nat.le_of_eq HLN.out
 have hl2 : l.length ≤ xs.length := Nat.le_of_eq HLN.out.symm
 have HK := Lib.hid hk
 have HM : Hid (∀ k (h : k < l.length), (l.take (k + 1)).map widP = (l.take k).map widP ++ [widP l[k]]) := by
  intro k h; rw [List.take_succ_eq_append_getElem h, List.map_append]; rfl
 clear hk
 go_enter Tryz.func66, Tryz.ntmps66
 go_wp2
 go_loopw [5, 10] (fun o i wr => ∃ (k : Nat), k ≤ xs.length ∧ i = .int .i64 k ∧ Own ic 1 w.heap.size 3 wr o ((l.take k).map widP) ∧ Below w.heap.size w wr) (fun _ i _ => xs.length - (intOf i).toNat)
 case atStart => exact ⟨0, Nat.zero_le _, rfl, Own.nil_, Z03⟩
 case round =>
  obtain ⟨k, hk, rfl, hO, hbw⟩ := hrel; obtain ⟨wo, rfl⟩ : ∃ x, x = wr := ⟨_, rfl⟩
  by_cases hlt : k < xs.length
  ·have hkl : k < l.length := by omega
   have hp := (hx.below hbw).get (List.getElem?_eq_getElem hlt) (List.getElem?_eq_getElem hkl)
   have hpk := HK.out _ (List.getElem_mem hkl)
   have HT := Lib.hid (HM.out k hkl)
   obtain ⟨b, off, rfl, hb, e0, e1, e2, e3, e4, e5, e6, e7⟩ := (hr.below hbw).pcc (List.getElem?_eq_getElem hlt)
   obtain ⟨p, hpe⟩ : ∃ p, l[k] = p := ⟨_, rfl⟩
   rw [hpe] at hp hpk HT; obtain ⟨x, hxe⟩ : ∃ x, xs[k] = x := ⟨_, rfl⟩
   rw [hxe] at hp e0 e1 e2 e3 e4 e5 e6 e7; have hw := fun W => Zq9 x p hp (Zlc hpk.er) W
   obtain ⟨L, hL⟩ : ∃ L, (l.take k).map widP = L := ⟨_, rfl⟩
   have hLl : L.length ≤ 16 := by rw [← hL, List.length_map, List.length_take]; omega
   rw [hL] at hO HT; obtain ⟨W1, hW1⟩ : ∃ z, widP p = z := ⟨_, rfl⟩
   rw [hW1] at hw HT; obtain ⟨⟨⟨p0, p1, p2⟩, p3, p4, ⟨p5, p6, p7⟩⟩, ⟨⟨q0, q1, q2⟩, q3, q4, ⟨q5, q6, q7⟩⟩⟩ := x; simp only [slV] at e0 e1 e2 e3 e4 e5 e6 e7 hw; clear hp hpk hpe hxe hL hW1; obtain ⟨Ao, co, rfl⟩ := hO.shape; have hal : Below wo.heap.size wo (wo.alloc (.cells #[.slice p0 p1 p2, .int .i64 p3, .int .i64 p4, .slice p5 p6 p7, .slice q0 q1 q2, .int .i64 q3, .int .i64 q4, .slice q5 q6 q7] 123)) := Z04 Z03 _
   go_wp2_with fail; refine (hw _).mono ?_
   rintro e w2 ⟨rfl, hb2⟩; have hal2 : Below wo.heap.size wo w2 := Z08 hb2 hal
   have hO2 := hO.below hal2
   have hbw2 := Z08 hal2 hbw
   have hu := Sl.oneG (enc := ic) (sz := 1) w2 3 W1 #[.int .i64 W1] rfl
   clear hO hal hb2 hal2; go_wp2_with (at_builtin; refine Z3y rfl Zk4 Zk2 Zk3 _ _ rfl w.heap.size _ _ _ [W1] rfl rfl (hO2.alloc _) hu (by simp [maxLen]; omega) (by simp; omega) (by simp; have := hbw2.size; omega) ?_; intro v3 w3 hu3 hgr3)
   have hb3 : Below w.heap.size w w3 := Z09 hgr3 (Z04 hbw2 _) (fun j e => (hO2.lt j e).1)
   go_wp2; go_roundw; case rel => exact ⟨k + 1, by omega, by go_num, by rw [HT.out]; exact hu3, hb3⟩
   case measure => simp [intOf]; omega
  ·obtain rfl : k = xs.length := by omega
   have HT := Lib.hid (show l.take xs.length = l by rw [HLN.out, List.take_length])
   rw [HT.out] at hO; go_wp2; go_ret; exact ⟨_, rfl, hO, hbw⟩
theorem Zqb (L : List Int) : (mmF L).2 = L.foldl max (-999999999) := by
 have key : ∀ (L : List Int) (a : Int × Int), (L.foldl Z6o a).2 = L.foldl max a.2 := by
  intro L; induction L with
  | nil => intro a; rfl
  | cons x r ih => intro a; rw [List.foldl_cons, List.foldl_cons, ih]; rfl
 exact key L _
theorem Zqc (l : List Pan) : (mmF (l.map widP ++ [0])).2 = Zn5 l := by
 rw [Zqb, List.foldl_append]
 unfold Zn5
 have key : ∀ (L : List Pan) (a : Int), max ((L.map widP).foldl max a) 0 = L.foldl (fun m p => max m (widP p)) (max a 0) := by
  intro L; induction L with
  | nil => intro a; rfl
  | cons x r ih => intro a; rw [List.map_cons, List.foldl_cons, List.foldl_cons, ih]; congr 1; omega
 exact (key l _).trans rfl
theorem Zqd {p : Pan} (hg : Zlb p) : 0 ≤ widP p ∧ widP p ≤ 4097 := by
 have := hg.lo
 have := hg.mid
 have := hg.hi
 unfold widP upI
 omega
def bndE (b : Bal) (l : List Pan) : Int := Z17 [balE b, pieE l]
def brF (l : List Pan) (k : Nat) : Int := ((l.take k).map fun p => ((netL p).length : Int)).sum
theorem Zqe {l : List Pan} {k : Nat} (hk : k < l.length) : brF l (k + 1) = brF l k + ((netL l[k]).length : Int) := by
 unfold brF
 rw [List.take_succ_eq_append_getElem hk, List.map_append, List.sum_append]
 simp
theorem Zqf {l : List Pan} (h : PieL l) (k : Nat) (hk : k ≤ l.length) : 0 ≤ brF l k ∧ brF l k ≤ 4096 * (k : Int) := by
 induction k with
 | zero => unfold brF; simp
 | succ k ih =>
  have h1 := ih (by omega)
  rw [Zqe (by omega : k < l.length)]
  have hp := h _ (List.getElem_mem (by omega : k < l.length))
  have h2 := Zms hp.er hp.nt
  omega
theorem Zqg {v : Value} (b : Bal) (l : List Pan) (w : World) (hbn : b.1.length ≤ 1000000) (h : SlP w v l) (hnm : ∀ p ∈ l, p.1.length ≤ 1000000) (hll : l.length ≤ 100000) :
  Calls Tryz.prog 12 #[.agg #[sV b.1, .int .i64 b.2.1, .int .i64 b.2.2], v] w (RV w (.tuple #[.agg #[.int .i64 (Zfc (bndE b l) (Zn6 b l).1), .int .i64 (Zfc (bndE b l) (Zn6 b l).2)], .int .i64 (bndE b l)])) := by
 have hcb := fun W => Zjh b hbn W
 have hc := fun W (hb : Below w.heap.size w W) => Zm2 l W (h.below hb) hnm hll
 have hf2 : ∀ A c' W, Rd ic 1 W A [balE b, pieE l] → Calls Tryz.prog 56 #[.slice A 2 c'] W (RV W (.int .i64 (bndE b l))) := fun A c' W hr => Zjd [balE b, pieE l] A c' W (by simp [maxLen]) hr
 by_cases hE : bndE b l = 0
 ·obtain ⟨hB0, hE0⟩ : balE b = 0 ∧ pieE l = 0 := Z9l hE
  obtain ⟨hPL, hl16⟩ := Zjp hnm hE0
  have hbb := Zmo hB0
  have hm := fun W (hb : Below w.heap.size w W) => Zkc l W (h.below hb) hl16 hPL
  have hmi := fun W va (ha : SlW W va l) => Zqa (v := va) l W ha hl16 hPL
  have HF := Lib.hid (fun k hk => Zqf hPL k hk)
  have HS := Lib.hid (fun k hk => Zqe (l := l) (k := k) hk)
  have HWN := Lib.hid (show ∀ x ∈ l.map widP ++ [0], -100000 ≤ x ∧ x ≤ 100000 from fun x hx => by
   rcases List.mem_append.1 hx with hx | hx
   ·obtain ⟨p, hp, rfl⟩ := List.mem_map.1 hx
    have := Zqd (Zlc (hPL p hp).er)
    omega
   ·obtain rfl := List.mem_singleton.1 hx
    omega)
  have HR : Hid (Zn6 b l = (upI (brF l l.length) (2 * b.2.1), (mmF (l.map widP ++ [0])).2)) := by unfold Hid Zn6; rw [Zqc]; unfold brF Zn4; rw [List.take_length]
  have H0 : Hid (∀ z, Zfc (bndE b l) z = z) := fun z => by unfold Zfc; rw [if_pos hE]
  rw [H0.out, H0.out, HR.out, hE]; rw [hE] at hf2; rw [hB0] at hcb hf2; rw [hE0] at hc hf2; have hmx := fun A c W hr h0 hl => Zk8 (l.map widP ++ [0]) A c W hr h0 hl HWN.out
  have hwl : (l.map widP).length ≤ 16 := by rw [List.length_map]; exact hl16
  obtain ⟨WL, hWL⟩ : ∃ z, l.map widP = z := ⟨_, rfl⟩
  rw [hWL] at hmx hmi hwl; rw [hWL]; obtain ⟨MX, hMX⟩ : ∃ z, (mmF (WL ++ [0])).2 = z := ⟨_, rfl⟩
  rw [hMX] at hmx ⊢; obtain ⟨X9, hX9⟩ : ∃ X, WL ++ [(0 : Int)] = X := ⟨_, rfl⟩
  have hx90 : 0 < X9.length := by rw [← hX9]; simp
  have hx91 : X9.length ≤ 17 := by rw [← hX9, List.length_append]; simp; omega
  rw [hX9] at hmx; have HX9 := Lib.hid hX9
  have HMX := Lib.hid hmx
  obtain ⟨xs, ⟨A, c, rfl, _, _, _⟩, _⟩ := h; obtain ⟨nm, br, bl⟩ := b; simp only at hbb
  unfold sV at hcb ⊢; simp only at hcb ⊢
  have hK := (Blk.new w 27 #[.string ⟨nm.toArray⟩, .int .i64 br, .int .i64 bl]).alloc (.cells #[.int .i64 0, .int .i64 0] 35)
  have hZ := Blk.new1 w (.cells #[.string ⟨nm.toArray⟩, .int .i64 br, .int .i64 bl] 27) 35 #[.int .i64 0, .int .i64 0]
  have fhK := hK.facts
  clear hE hE0 hB0 hPL hWL hMX hmx H0 HR HWN hX9; go_enter Tryz.func12, Tryz.ntmps12
  go_wp2_with fail; refine (hcb _).mono ?_
  rintro e w2 ⟨rfl, hb2⟩; replace hK := hK.below (show Below _ _ w2 by (repeat first|exact J0|assumption|(apply J1;assumption)|apply J2|apply J3|apply J4))
  replace fhK := hK.facts
  replace hZ := hZ.below (show Below _ _ w2 by (repeat first|exact J0|assumption|(apply J1;assumption)|apply J2|apply J3|apply J4))
  replace fhZ := hZ.facts
  go_wp2_with fail; refine (hc _ (by (repeat first|exact J0|assumption|(apply J1;assumption)|apply J2|apply J3|apply J4))).mono ?_
  rintro e w3 ⟨rfl, hb3⟩; replace hK := hK.below (show Below _ _ w3 by (repeat first|exact J0|assumption|(apply J1;assumption)|apply J2|apply J3|apply J4))
  replace fhK := hK.facts
  replace hZ := hZ.below (show Below _ _ w3 by (repeat first|exact J0|assumption|(apply J1;assumption)|apply J2|apply J3|apply J4))
  replace fhZ := hZ.facts
  go_wp2_with fail; go_must (refine (hf2 _ _ _ (Rd.ints2 (by simp) (by go_simp) (by go_simp))).mono ?_)
  rintro e w4 ⟨rfl, hb4⟩; have hK4 := hK.below (show Below _ _ w4 by (repeat first|exact J0|assumption|(apply J1;assumption)|apply J2|apply J3|apply J4))
  have hZ4 := hZ.below (show Below _ _ w4 by (repeat first|exact J0|assumption|(apply J1;assumption)|apply J2|apply J3|apply J4))
  have hbw4 : Below w.heap.size w w4 := by (repeat first|exact J0|assumption|(apply J1;assumption)|apply J2|apply J3|apply J4)
  clear hcb hc hf2 hb2 hb3 hb4 hK hZ fhK fhZ; go_wp2_with fail; refine (hm _ hbw4).mono ?_
  rintro e w5 ⟨va, rfl, hWa, hb5⟩; obtain ⟨Aa, ca, rfl⟩ := hWa.shape; go_wp2_with fail; refine (hmi _ _ hWa).mono ?_
  rintro e w6 ⟨v6, rfl, hO6, hb6⟩; obtain ⟨A6, c6, rfl⟩ := hO6.shape; have hb46 : Below w4.heap.size w4 w6 := Z08 hb6 hb5
  have hK6 := hK4.below hb46
  have hZ6 := hZ4.below hb46
  have hbw6 := Z08 hb46 hbw4
  have hW6 := hWa.below hb6
  have hz56 := hb6.size
  have hZ5 := hZ4.below hb5
  have hbw5 := Z08 hb5 hbw4
  have hb56 := hb6
  clear hm hmi hb5 hb6 hb46 hK4 hZ4 hWa hbw4; obtain ⟨ys, ⟨_, _, hys, _, _, hry⟩, hyx⟩ := hW6; have HYL := Lib.hid hyx.len
  simp only [Value.slice.injEq] at hys; obtain ⟨rfl, -, rfl⟩ := hys; go_wp2; go_loopw [9, 28] (fun m i wr => ∃ (k : Nat), k ≤ l.length ∧ i = .int .i64 k ∧ m = .int .i64 (brF l k) ∧ Below w6.heap.size w6 wr) (fun _ i _ => l.length - (intOf i).toNat)
  case atStart => exact ⟨0, Nat.zero_le _, rfl, rfl, Z03⟩
  case round =>
   obtain ⟨k, hk, rfl, rfl, hbk⟩ := hrel; obtain ⟨wo, rfl⟩ : ∃ x, x = wr := ⟨_, rfl⟩
   have hfk := HF.out k hk
   by_cases hlt : k < l.length
   ·have hky : k < ys.length := by rw [HYL.out]; exact hlt
    have hp := (hyx.below hbk).get (List.getElem?_eq_getElem hky) (List.getElem?_eq_getElem hlt)
    have HSk := Lib.hid (HS.out k hlt)
    obtain ⟨b, off, rfl, hb, e0, e1, e2, e3, e4, e5, e6, e7⟩ := (hry.below hbk).pcc (List.getElem?_eq_getElem hky)
    have hfk1 := HF.out (k + 1) hlt
    rw [HSk.out] at hfk1; have hnl := hp.up.ntl
    obtain ⟨⟨⟨⟨p0, p1, p2⟩, p3, p4, ⟨p5, p6, p7⟩⟩, ⟨⟨q0, q1, q2⟩, q3, q4, ⟨q5, q6, q7⟩⟩⟩, hx⟩ : ∃ z, ys[k] = z := ⟨_, rfl⟩
    rw [hx] at e0 e1 e2 e3 e4 e5 e6 e7 hnl; simp only [slV] at e0 e1 e2 e3 e4 e5 e6 e7 hnl; subst hnl; obtain ⟨NN, hNN⟩ : ∃ z, (netL l[k]).length = z := ⟨_, rfl⟩
    rw [hNN] at HSk e3 hfk1; obtain ⟨F, hF⟩ : ∃ z, brF l k = z := ⟨_, rfl⟩
    rw [hF] at HSk hfk hfk1 ⊢; clear hx hp hNN hF; go_wp2; go_roundw; case rel => exact ⟨k + 1, by omega, by go_num, by rw [HSk.out], by (repeat first|exact J0|assumption|(apply J1;assumption)|apply J2|apply J3|apply J4)⟩
    case measure => simp [intOf]; omega
   ·obtain rfl : k = l.length := by omega
    obtain ⟨F, hF⟩ : ∃ z, brF l l.length = z := ⟨_, rfl⟩
    rw [hF] at hfk ⊢; have HFF := Lib.hid hF
    have hK7 := hK6.below hbk
    have fK7 := hK7.facts
    have hup := fun W => Zq8 F (2 * br) (by omega) (by omega) W
    obtain ⟨UP, hUP⟩ : ∃ z, upI F (2 * br) = z := ⟨_, rfl⟩
    rw [hUP] at hup; have HUP := Lib.hid hUP
    have hO7 := hO6.below hbk
    have hbw7 := Z08 hbk hbw6
    clear hF hUP; go_wp2_with fail; refine (hup _).mono ?_
    rintro e w8 ⟨rfl, hb8⟩; have hO8 := hO7.below hb8
    have hb68 := Z08 hb8 hbk
    have hu := Sl.oneG (enc := ic) (sz := 1) w8 3 0 #[.int .i64 0] rfl
    have hbase : w5.heap.size ≤ w8.heap.size := by have := hb68.size; omega
    go_wp2_with (at_builtin; refine Z3y rfl Zk4 Zk2 Zk3 _ _ rfl w5.heap.size _ _ _ [0] rfl rfl (hO8.alloc _) hu (by simp [maxLen]; omega) (by simp; omega) (by simp; omega) ?_; intro v9 w9 hu9 hgr9; rw [HX9.out] at hu9; obtain ⟨A9, c9, rfl⟩ := hu9.shape; obtain ⟨_, _, he9, _, _, hr9⟩ := hu9.rd Zk2; obtain ⟨rfl, rfl⟩ : A9 = _ ∧ c9 = _ := by simpa using he9)
    have hb59 : Below w5.heap.size w5 w9 := Z09 hgr9 (Z04 (Z08 hb68 hb56) _) (fun j e => (hO8.lt j e).1)
    have hmm := HMX.out A9 c9 w9 hr9 hx90 (by omega)
    go_wp2_with fail; refine (hmm).mono ?_
    rintro e w10 ⟨rfl, hb10⟩; have hZ10 := (hZ5.below hb59).below hb10
    have hbw10 := Z08 hb10 (Z08 hb59 hbw5)
    go_wp2_with (refine Z4n hZ10 rfl _ _ _ rfl rfl rfl (by rfl) (by kernel_rfl) (by kernel_rfl) ?_; intro w12 hZ12 hc12; have f12 := hZ12.facts)
    refine bodyPost_ret (v := .tuple #[.agg #[.int .i64 UP, .int .i64 MX], .int .i64 0]) (by simp [results, Tryz.results12, go_sem, f12]) rfl ?_
    exact ⟨by rw [HFF.out, HUP.out], Z9f hbw10 hc12 (by omega)⟩
 ·have t0 : (bndE b l != 0) = true := by simp [hE]
  have H1 : Hid (∀ z, Zfc (bndE b l) z = 0) := fun z => by unfold Zfc; rw [if_neg hE]
  rw [H1.out, H1.out]; obtain ⟨E, hEE⟩ : ∃ E, bndE b l = E := ⟨_, rfl⟩
  rw [hEE] at hf2 t0 ⊢; obtain ⟨E1, hE1⟩ : ∃ E, balE b = E := ⟨_, rfl⟩
  obtain ⟨E2, hE2⟩ : ∃ E, pieE l = E := ⟨_, rfl⟩
  rw [hE1] at hcb hf2; rw [hE2] at hc hf2; obtain ⟨xs, ⟨A, c, rfl, _, _, _⟩, _⟩ := h; obtain ⟨nm, br, bl⟩ := b; unfold sV at hcb ⊢; simp only at hcb
  have hK := (Blk.new w 27 #[.string ⟨nm.toArray⟩, .int .i64 br, .int .i64 bl]).alloc (.cells #[.int .i64 0, .int .i64 0] 35)
  have hZ := Blk.new1 w (.cells #[.string ⟨nm.toArray⟩, .int .i64 br, .int .i64 bl] 27) 35 #[.int .i64 0, .int .i64 0]
  have fhK := hK.facts
  clear hE hEE hE1 hE2 H1; go_enter Tryz.func12, Tryz.ntmps12
  go_wp2_with fail; refine (hcb _).mono ?_
  rintro e w2 ⟨rfl, hb2⟩; replace hK := hK.below (show Below _ _ w2 by (repeat first|exact J0|assumption|(apply J1;assumption)|apply J2|apply J3|apply J4))
  replace fhK := hK.facts
  replace hZ := hZ.below (show Below _ _ w2 by (repeat first|exact J0|assumption|(apply J1;assumption)|apply J2|apply J3|apply J4))
  replace fhZ := hZ.facts
  go_wp2_with fail; refine (hc _ (by (repeat first|exact J0|assumption|(apply J1;assumption)|apply J2|apply J3|apply J4))).mono ?_
  rintro e w3 ⟨rfl, hb3⟩; replace hK := hK.below (show Below _ _ w3 by (repeat first|exact J0|assumption|(apply J1;assumption)|apply J2|apply J3|apply J4))
  replace fhK := hK.facts
  replace hZ := hZ.below (show Below _ _ w3 by (repeat first|exact J0|assumption|(apply J1;assumption)|apply J2|apply J3|apply J4))
  replace fhZ := hZ.facts
  go_wp2_with fail; go_must (refine (hf2 _ _ _ (Rd.ints2 (by simp) (by go_simp) (by go_simp))).mono ?_)
  rintro e w4 ⟨rfl, hb4⟩; have hZ4 := hZ.below (show Below _ _ w4 by (repeat first|exact J0|assumption|(apply J1;assumption)|apply J2|apply J3|apply J4))
  have hbw4 : Below w.heap.size w w4 := by (repeat first|exact J0|assumption|(apply J1;assumption)|apply J2|apply J3|apply J4)
  go_wp2_with (refine Z4n hZ4 rfl _ _ _ rfl rfl rfl (by rfl) (by kernel_rfl) (by kernel_rfl) ?_; intro w12 hZ12 hc12; have f12 := hZ12.facts)
  refine bodyPost_ret (v := .tuple #[.agg #[.int .i64 0, .int .i64 0], .int .i64 E]) (by simp [results, Tryz.results12, go_sem, f12]) rfl ?_
  exact ⟨rfl, Z9f hbw4 hc12 (by omega)⟩
end Go.Proofs.YtpcgeihemkhkjaaGreatDoor
namespace Go.Proofs.YtpcgeihemkhkjaaGreatDoor
open Go.RowKit Go.ChangeMaps
set_option maxHeartbeats 4000000
set_option maxRecDepth 100000
def wngB : Pan := ([119, 105, 110, 103], 2, [([78], 1, false)], [([66, 66], 1, true)])
def dorB : Pan := ([100, 111, 111, 114], 3, [([66, 66], 1, false)], [([78], 1, false)])
def pcsB : List Pan := [wngB, dorB]
def bgtB : Bal := ([98], 2, 9)
def stkB : List Bal := [([97], 1, 9), ([98], 2, 9)]
def ord5 : List Plc := [(0, false, 0), (1, false, 0)]
def pln5 : List Plc := [(0, false, 0), (1, false, 6)]
def txt5 : Str := [119, 105, 110, 103, 32, 117, 112, 32, 48, 10, 100, 111, 111, 114, 32, 117, 112, 32, 54, 10]
theorem Zqh : gapE wngB dorB = 0 := by kernel_rfl
theorem Zqi : Zfc 0 (gapB (Z6y wngB) (Z6y dorB)) = 6 := by kernel_rfl
theorem Zqj : gapE wngB wngB = 0 := by kernel_rfl
theorem Zqk : Zfc 0 (gapB (Z6y wngB) (Z6y wngB)) = 6 := by kernel_rfl
theorem Zql : Zmg pcsB ord5 = 0 := by kernel_rfl
theorem Zqm : Z5w 0 (layP pcsB ord5) = pln5 := by kernel_rfl
theorem Zqn : Zmg pcsB pln5 = 0 := by kernel_rfl
theorem Zqo : Zfc 0 (lenP pcsB pln5) = 6 := by kernel_rfl
theorem Zqp : bndE bgtB pcsB = 0 := by kernel_rfl
theorem Zqq : Zfc 0 (Zn6 bgtB pcsB).1 = 6 := by kernel_rfl
theorem Zqr : Zfc 0 (Zn6 bgtB pcsB).2 = 3 := by kernel_rfl
theorem Zqs : cpnE bgtB pcsB pln5 = 0 := by kernel_rfl
theorem Zqt : Zfc 0 (wstP bgtB pcsB pln5) = 2 := by kernel_rfl
theorem Zqu : scrE bgtB pcsB pln5 = 0 := by kernel_rfl
theorem Zqv : scrL bgtB pcsB pln5 = [(6, 0, -1), (7, 1, -1)] := by kernel_rfl
theorem Zqw : yldE bgtB pcsB pln5 = 0 := by kernel_rfl
theorem Zqx : Zfc 0 (yldP (Ziv pcsB pln5) (2 * lenP pcsB pln5 * bgtB.2.1)).1 = 11 := by kernel_rfl
theorem Zqy : Zfc 0 (yldP (Ziv pcsB pln5) (2 * lenP pcsB pln5 * bgtB.2.1)).2 = 12 := by kernel_rfl
theorem Zqz : lftE bgtB pcsB pln5 = 0 := by kernel_rfl
theorem Zr0 : lftR bgtB pcsB pln5 = ([98], 2, 3) := by kernel_rfl
theorem Zr1 : prnR pcsB pln5 = txt5 := by kernel_rfl
theorem Zr2 : paeB pcsB txt5 = (pln5, 0, 0) := by kernel_rfl
theorem Zr3 : bstR bgtB pcsB = (pln5, 6, 0) := by kernel_rfl
theorem Zr4 : pakE stkB pcsB = 0 := by kernel_rfl
theorem Zr5 : pakL stkB pcsB = [[], pln5] := by kernel_rfl
attribute [local go_sem] Oper.semAt_some
structure Zr6 (t : TypeId) (base : Nat) (w : World) (x : PnV) (p : Pan) : Prop where
 nm : x.1 = p.1
 wd : x.2.1 = p.2.1
 left : Own ec 3 base t w (slV x.2.2.1) p.2.2.1
 right : Own ec 3 base t w (slV x.2.2.2) p.2.2.2
def Zr7 (t : TypeId) (base : Nat) (w : World) : List PnV → List Pan → Prop
 | [], [] => True
 | x :: xs, p :: ps => Zr6 t base w x p ∧ Zr7 t base w xs ps
 | _, _ => False
theorem Zr6.to {t : TypeId} {base : Nat} {w w' : World} {x : PnV} {p : Pan} (f : ∀ v l, Own ec 3 base t w v l → Own ec 3 base t w' v l) (h : Zr6 t base w x p) : Zr6 t base w' x p := ⟨h.nm, h.wd, f _ _ h.left, f _ _ h.right⟩
theorem Zr7.to {t : TypeId} {base : Nat} {w w' : World} (f : ∀ v l, Own ec 3 base t w v l → Own ec 3 base t w' v l) : ∀ {xs : List PnV} {l : List Pan}, Zr7 t base w xs l → Zr7 t base w' xs l
 | [], [], _ => trivial
 | _ :: _, _ :: _, h => ⟨h.1.to f, h.2.to f⟩
 | [], _ :: _, h => h.elim
 | _ :: _, [], h => h.elim
theorem Zr7.snoc {t : TypeId} {base : Nat} {w : World} {x : PnV} {p : Pan} (hx : Zr6 t base w x p) : ∀ {xs : List PnV} {l : List Pan}, Zr7 t base w xs l → Zr7 t base w (xs ++ [x]) (l ++ [p])
 | [], [], _ => ⟨hx, trivial⟩
 | _ :: _, _ :: _, h => ⟨h.1, Zr7.snoc hx h.2⟩
 | [], _ :: _, h => h.elim
 | _ :: _, [], h => h.elim
theorem Zr7.at_ {t : TypeId} {base : Nat} {w : World} : ∀ {xs : List PnV} {l : List Pan}, Zr7 t base w xs l → Zgi w xs l
 | [], [], _ => trivial
 | _ :: _, _ :: _, h => ⟨⟨h.1.nm, h.1.wd, h.1.left.rd Z8i, h.1.right.rd Z8i⟩, h.2.at_⟩
 | [], _ :: _, h => h.elim
 | _ :: _, [], h => h.elim
theorem Zr7.len {t : TypeId} {base : Nat} {w : World} {xs : List PnV} {l : List Pan} (h : Zr7 t base w xs l) : xs.length = l.length := h.at_.len
theorem Zr7.below {t : TypeId} {base : Nat} {w w' : World} {xs : List PnV} {l : List Pan} (h : Zr7 t base w xs l) (hb : Below w.heap.size w w') : Zr7 t base w' xs l := h.to fun _ _ ho => ho.below hb
def RPS (w : World) (l : List Pan) (e : Ending) (w' : World) : Prop := ∃ v, e = .returned v ∧ SlP w' v l ∧ Below w.heap.size w w'
end Go.Proofs.YtpcgeihemkhkjaaGreatDoor

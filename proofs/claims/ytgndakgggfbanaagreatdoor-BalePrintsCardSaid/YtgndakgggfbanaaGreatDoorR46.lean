/- The law of Bale: valid, plan; the reference: CheckPlaces, walked. Conditions: bounds. -/
import Derived.Test.YtgndakgggfbanaaGreatDoorR44
import Derived.Test.YtgndakgggfbanaaGreatDoorR41
import Derived.Test.YtgndakgggfbanaaGreatDoorR45
import Derived.Test.YtgndakgggfbanaaGreatDoorR28
namespace Go.Proofs.YtgndakgggfbanaaGreatDoor
open Go.RowKit Go.ChangeMaps
set_option maxHeartbeats 4000000
set_option maxRecDepth 100000
attribute [local go_sem] Oper.semAt_some
theorem rcheckAt_any (a : Int) (w : World) : Calls Tryz.prog 125 #[.int .i64 a] w (RV w (.int .i64 (atE_ a))) := by
  have cR := fun W => rrange_any a (-100000) 100000 W
  have HZ : Hid (atE_ a = firstI [withinI a (-100000) 100000, whenI (decide (a % 2 ≠ 0)) 14]) := rfl
  by_cases h1 : a < -100000 ∨ 100000 < a
  · have h2 : withinI a (-100000) 100000 = 3 := by unfold withinI whenI; rw [if_pos]; rcases h1 with h | h <;> simp [h]
    rw [h2] at cR
    have HE : Hid (atE_ a = 3) := by unfold Hid; rw [HZ.out, h2]; rfl
    clear h1 h2 HZ
    go_enter Tryz.func125, Tryz.ntmps125
    go_wp2_with fail
    refine (cR _).mono ?_
    rintro e w1 ⟨rfl, hb1⟩
    go_wp2
    go_ret
    exact ⟨by rw [HE.out]; rfl, by (repeat first|exact J0|assumption|(apply J1;assumption)|apply J2|apply J3|apply J4)⟩
  · have h2 : withinI a (-100000) 100000 = 0 := by
      unfold withinI whenI
      rw [if_neg]
      simp
      omega
    rw [h2] at cR
    by_cases he : a % 2 = 0
    · have t1 : (a.tmod 2 == 0) = true := by rw [tmod2_even he]; rfl
      have t2 : (a.tmod 2 != 0) = false := by rw [tmod2_even he]; rfl
      have HE : Hid (atE_ a = 0) := by unfold Hid; rw [HZ.out, h2]; simp [firstI, whenI, he]
      clear h1 h2 he HZ
      go_enter Tryz.func125, Tryz.ntmps125
      go_wp2_with fail
      refine (cR _).mono ?_
      rintro e w1 ⟨rfl, hb1⟩
      go_wp2
      go_ret
      exact ⟨by rw [HE.out]; rfl, by (repeat first|exact J0|assumption|(apply J1;assumption)|apply J2|apply J3|apply J4)⟩
    · have t1 : (a.tmod 2 == 0) = false := beq_false_of_ne (tmod2_odd he)
      have t2 : (a.tmod 2 != 0) = true := by simpa using tmod2_odd he
      have HE : Hid (atE_ a = 14) := by unfold Hid; rw [HZ.out, h2]; simp [firstI, whenI, he]
      clear h1 h2 he HZ
      go_enter Tryz.func125, Tryz.ntmps125
      go_wp2_with fail
      refine (cR _).mono ?_
      rintro e w1 ⟨rfl, hb1⟩
      go_wp2
      go_ret
      exact ⟨by rw [HE.out]; rfl, by (repeat first|exact J0|assumption|(apply J1;assumption)|apply J2|apply J3|apply J4)⟩
theorem plcE1_bad {n : Nat} {D : List Plc} {x : Plc} (h : x.1 < 0 ∨ (n : Int) ≤ x.1) : plcE1 n D x = 10 := by
 unfold plcE1 whenI
 rw [if_pos (by rcases h with h | h <;> simp [h])]
 rfl
theorem plcE1_good {n : Nat} {D : List Plc} {x : Plc} (h : ¬ (x.1 < 0 ∨ (n : Int) ≤ x.1)) : plcE1 n D x = if (D.any fun o => decide (o.1 = x.1)) = true then 9 else atE_ x.2.2 := by
 have h1 : (decide (x.1 < 0) || decide ((n : Int) ≤ x.1)) = false := by simp; omega
 unfold plcE1
 rw [h1]
 by_cases hd : (D.any fun o => decide (o.1 = x.1)) = true
 ·rw [if_pos hd, hd]; rfl
 ·rw [if_neg hd]
  rw [show (D.any fun o => decide (o.1 = x.1)) = false from Bool.eq_false_iff.2 hd]
  by_cases ha : atE_ x.2.2 = 0
  ·rw [ha]; rfl
  ·simp [firstI, whenI, ha]
theorem atE_ne (a : Int) : atE_ a ≠ 10 := by
 unfold atE_ withinI whenI
 simp only [firstI]
 split <;> split <;> (try split) <;> omega
theorem plcE1_ne {n : Nat} {D : List Plc} {x : Plc} (h : ¬ (x.1 < 0 ∨ (n : Int) ≤ x.1)) : plcE1 n D x ≠ 10 := by
 rw [plcE1_good h]
 split
 ·decide
 ·exact atE_ne _
theorem plcE1_step {n : Nat} {l : List Plc} {j : Nat} (hj : j < l.length) {x : Plc} (h : ¬ (x.1 < 0 ∨ (n : Int) ≤ x.1)) : plcE1 n (l.take (j + 1)) x = if l[j].1 = x.1 then 9 else plcE1 n (l.take j) x := by
 rw [plcE1_good h, plcE1_good h, List.take_succ_eq_append_getElem hj, List.any_append]
 by_cases e : l[j].1 = x.1
 ·simp [e]
 ·rw [if_neg e, List.any_cons, List.any_nil, decide_eq_false e, Bool.or_false, Bool.or_false]
theorem plcE1_none {n : Nat} {l : List Plc} {x : Plc} : plcE1 n (l.take 0) x = if x.1 < 0 ∨ (n : Int) ≤ x.1 then 10 else atE_ x.2.2 := by
 by_cases h : x.1 < 0 ∨ (n : Int) ≤ x.1
 ·rw [plcE1_bad h, if_pos h]
 ·rw [plcE1_good h, if_neg h]; rfl
theorem rcheckPlace_any (x : Plc) (n : Nat) (w : World) : Calls Tryz.prog 66 #[.agg #[.int .i64 x.1, .bool x.2.1, .int .i64 x.2.2], .int .i64 n] w (RV w (.int .i64 (if x.1 < 0 ∨ (n : Int) ≤ x.1 then 10 else atE_ x.2.2))) := by
 obtain ⟨p, t, a⟩ := x
 simp only
 have cA := fun W => rcheckAt_any a W
 have hP := Blk.new w 75 #[.int .i64 p, .bool t, .int .i64 a]
 have fP := hP.facts
 obtain ⟨R, hR⟩ : ∃ z, (if p < 0 ∨ (n : Int) ≤ p then 10 else atE_ a) = z := ⟨_, rfl⟩
 have HR := Lib.hid hR
 rw [hR]
 clear hR
 by_cases h1 : p < 0
 ·have t1 : (p < 0) = True := eq_true h1
  have HE : Hid (R = 10) := by unfold Hid; rw [← HR.out, if_pos (.inl h1)]
  clear h1 HR
  go_enter Tryz.func66, Tryz.ntmps66
  go_wp2
  go_ret
  exact ⟨by rw [HE.out]; rfl, by (repeat first|exact J0|assumption|(apply J1;assumption)|apply J2|apply J3|apply J4)⟩
 ·have t1 : (p < 0) = False := eq_false h1
  by_cases h2 : (n : Int) ≤ p
  ·have t2 : ((n : Int) ≤ p) = True := eq_true h2
   have HE : Hid (R = 10) := by unfold Hid; rw [← HR.out, if_pos (.inr h2)]
   clear h1 h2 HR
   go_enter Tryz.func66, Tryz.ntmps66
   go_wp2
   go_ret
   exact ⟨by rw [HE.out]; rfl, by (repeat first|exact J0|assumption|(apply J1;assumption)|apply J2|apply J3|apply J4)⟩
  ·have t2 : ((n : Int) ≤ p) = False := eq_false h2
   have HE : Hid (R = atE_ a) := by unfold Hid; rw [← HR.out, if_neg (by omega)]
   clear h1 h2 HR
   go_enter Tryz.func66, Tryz.ntmps66
   go_wp2_with fail
   refine (cA _).mono ?_
   rintro e w1 ⟨rfl, hb1⟩
   go_wp2
   go_ret
   exact ⟨by rw [HE.out]; rfl, by (repeat first|exact J0|assumption|(apply J1;assumption)|apply J2|apply J3|apply J4)⟩
theorem rcheckPlaces_any (l : List Plc) (n : Nat) (A : Option Addr) (c : Nat) (w : World) (h : Rd plc 3 w A l) : Calls Tryz.prog 25 #[.slice A l.length c, .int .i64 n] w (RV w (.int .i64 (plcE n l))) := by
 by_cases h16 : 16 < l.length
 ·have HE : Hid (plcE n l = 5) := by unfold Hid plcE; rw [if_pos h16]
  have t2 : (16 < (l.length : Int)) = True := eq_true (by omega)
  clear h16
  go_enter Tryz.func25, Tryz.ntmps25
  go_wp2
  go_ret
  exact ⟨by rw [HE.out]; rfl, by (repeat first|exact J0|assumption|(apply J1;assumption)|apply J2|apply J3|apply J4)⟩
 ·have HE : Hid (plcE n l = plcG n (l.take 0) (l.drop 0)) := by unfold Hid plcE; rw [if_neg h16]; rfl
  have t2 : (16 < (l.length : Int)) = False := eq_false (by omega)
  have hl16 : l.length ≤ 16 := by omega
  clear h16
  go_enter Tryz.func25, Tryz.ntmps25
  go_wp2
  go_loopw [5] (fun s wr => ∃ k : Nat, k ≤ l.length ∧ s = .int .i64 k ∧ Hid (plcE n l = plcG n (l.take k) (l.drop k)) ∧ Below w.heap.size w wr) (fun s _ => l.length - (intOf s).toNat)
  case atStart => exact ⟨0, Nat.zero_le _, rfl, HE, bl_refl⟩
  case round =>
   clear t2 HE
   obtain ⟨k, hk, rfl, HK, hbw⟩ := hrel
   obtain ⟨wo, rfl⟩ : ∃ x, x = wr := ⟨_, rfl⟩
   by_cases hlt : k < l.length
   ·have HF := Lib.hid (plcG_at (n := n) hlt)
    obtain ⟨b, off, rfl, hb, e0, e1, e2⟩ := (h.below hbw).plc hlt
    obtain ⟨x, hxe⟩ : ∃ x, l[k] = x := ⟨_, rfl⟩
    rw [hxe] at HF e0 e1 e2
    have hcp := fun W => rcheckPlace_any x n W
    have H0 := Lib.hid (plcE1_none (n := n) (l := l) (x := x))
    have HX : Hid (l[k].1 = x.1) := by unfold Hid; rw [hxe]
    have HBD : Hid (x.1 < 0 ∨ (n : Int) ≤ x.1 → ∀ D, plcE1 n D x = 10) := fun z D => plcE1_bad z
    have HGD : Hid (¬ (x.1 < 0 ∨ (n : Int) ≤ x.1) → (∀ D, plcE1 n D x ≠ 10) ∧ ∀ (j : Nat) (hj : j < l.length), plcE1 n (l.take (j + 1)) x = if l[j].1 = x.1 then 9 else plcE1 n (l.take j) x) := fun z => ⟨fun D => plcE1_ne z, fun j hj => plcE1_step hj z⟩
    have HCS : Hid ((x.1 < 0 ∨ (n : Int) ≤ x.1) ∨ ¬ (x.1 < 0 ∨ (n : Int) ≤ x.1)) := Classical.em _
    obtain ⟨E0, hE0⟩ : ∃ z, (if x.1 < 0 ∨ (n : Int) ≤ x.1 then 10 else atE_ x.2.2) = z := ⟨_, rfl⟩
    rw [hE0] at hcp H0
    obtain ⟨x0, x1, x2⟩ := x
    simp only at e0 e1 e2 hcp HX HBD HGD HCS
    have hb' : b < wo.heap.size := hb
    clear hxe hE0
    go_upto_region 6 with fail
    go_wp2_with fail
    refine (hcp _).mono ?_
    rintro e w3 ⟨rfl, hb3⟩
    have hbw3 := bl_then hb3 hbw
    have c0 := (hb3.cell (p := ⟨b, off + k * 3, none⟩) hb').trans e0
    go_wp2_with fail
    go_loopw [6, 7] (fun e i wr => ∃ j : Nat, j ≤ k ∧ i = .int .i64 j ∧ e = .int .i64 (plcE1 n (l.take j) (x0, x1, x2)) ∧ Below w3.heap.size w3 wr) (fun _ i _ => k - (intOf i).toNat)
    case atStart => exact ⟨0, Nat.zero_le _, rfl, by rw [H0.out], bl_refl⟩
    case round =>
     clear H0 e0 e1 e2 hb
     obtain ⟨j, hj, rfl, rfl, hb4⟩ := hrel
     obtain ⟨wi, rfl⟩ : ∃ x, x = wr := ⟨_, rfl⟩
     have hbi := bl_then hb4 hbw3
     have hJK : Hid (j = k → plcE1 n (l.take k) (x0, x1, x2) = plcE1 n (l.take j) (x0, x1, x2)) := fun z => by rw [z]
     have fin : ∀ E, plcE1 n (l.take k) (x0, x1, x2) = E → (E = 0 → Hid (plcE n l = plcG n (l.take (k + 1)) (l.drop (k + 1)))) ∧ (E ≠ 0 → Hid (plcE n l = E)) := fun E z => by
      have h1 := HK.out.trans HF.out
      rw [z] at h1
      exact ⟨fun y => by unfold Hid; rw [h1, if_pos y], fun y => by unfold Hid; rw [h1, if_neg y]⟩
     rcases HCS.out with hbad | hgood
     ·have hE : plcE1 n (l.take j) (x0, x1, x2) = 10 := HBD.out hbad _
      have HE := (fin 10 (HBD.out hbad _)).2 (by decide)
      rw [hE]
      clear hE hbad fin hJK
      by_cases hjk : j < k
      ·have u1 : ((j : Int) < (k : Int)) = True := eq_true (by omega)
       have u1' : (j < k) = True := eq_true hjk
       clear hjk
       go_wp2
       go_ret
       exact ⟨by rw [HE.out]; rfl, hbi⟩
      ·have u1 : ((j : Int) < (k : Int)) = False := eq_false (by omega)
       have u1' : (j < k) = False := eq_false hjk
       clear hjk
       go_wp2
       go_ret
       exact ⟨by rw [HE.out]; rfl, hbi⟩
     ·obtain ⟨hne, hstp⟩ := HGD.out hgood
      have hnj := hne (l.take j)
      obtain ⟨E, hE⟩ : ∃ z, plcE1 n (l.take j) (x0, x1, x2) = z := ⟨_, rfl⟩
      rw [hE] at hnj hJK ⊢
      have t1 : (E != 10) = true := by simpa using hnj
      clear hne hgood hnj
      by_cases hjk : j < k
      ·have hjl : j < l.length := by omega
       have hst := Lib.hid (hstp j hjl)
       rw [hE] at hst
       obtain ⟨b2, o2, eA, hb2, f0, f1, f2⟩ := (h.below hbi).plc hjl
       obtain ⟨rfl, rfl⟩ : b = b2 ∧ off = o2 := by simpa using eA
       have c4 := (hb4.cell (p := ⟨b, off + k * 3, none⟩) (Nat.lt_of_lt_of_le hb' hb3.size)).trans c0
       obtain ⟨⟨y0, y1, y2⟩, hy⟩ : ∃ z, l[j] = z := ⟨_, rfl⟩
       rw [hy] at f0 hst
       simp only at f0 hst
       by_cases hyx : y0 = x0
       ·have t2 : (y0 == x0) = true := by simpa using hyx
        have HS2 : Hid (plcE1 n (l.take (j + 1)) (x0, x1, x2) = 9) := by unfold Hid; rw [hst.out, if_pos hyx]
        clear hy hE hstp hJK fin hjl f1 f2 eA hyx hst
        go_upto_region 10 with fail
        refine wp_region_ords [0, 1, 2, 3, 4, 5, 6, 7, 8, 9, 10] [] [] (by kernel_rfl) (by kernel_rfl) (fun d _ _ _ _ h => by cases d <;> exact h) ?_
        simp only [List.map_cons, List.map_nil, List.getD_cons_zero, List.getD_cons_succ]
        repeat (go_big_quiet_step (fail))
        refine wpQuiet_nil ?_
        refine wpMid_nil ?_
        go_wp2
        go_roundw
        case rel => exact ⟨j + 1, by omega, by go_num, by rw [HS2.out], by (repeat first|exact J0|assumption|(apply J1;assumption)|apply J2|apply J3|apply J4)⟩
        case measure => simp [intOf]; omega
       ·have t2 : (y0 == x0) = false := beq_false_of_ne hyx
        have HS2 : Hid (plcE1 n (l.take (j + 1)) (x0, x1, x2) = E) := by unfold Hid; rw [hst.out, if_neg hyx]
        clear hy hE hstp hJK fin hjl f1 f2 eA hyx hst
        go_upto_region 10 with fail
        refine wp_region_ords [0, 1, 2, 3, 4, 5, 6, 7, 8, 9, 10] [] [] (by kernel_rfl) (by kernel_rfl) (fun d _ _ _ _ h => by cases d <;> exact h) ?_
        simp only [List.map_cons, List.map_nil, List.getD_cons_zero, List.getD_cons_succ]
        repeat (go_big_quiet_step (fail))
        refine wpQuiet_nil ?_
        refine wpMid_nil ?_
        go_wp2
        go_roundw
        case rel => exact ⟨j + 1, by omega, by go_num, by rw [HS2.out], by (repeat first|exact J0|assumption|(apply J1;assumption)|apply J2|apply J3|apply J4)⟩
        case measure => simp [intOf]; omega
      ·obtain rfl : j = k := by omega
       have hf := fin E (hJK.out rfl)
       by_cases hz : E = 0
       ·have t3 : (E != 0) = false := by simp [hz]
        have HE := hf.1 hz
        clear hz hE hstp hJK fin hf
        go_wp2
        go_roundw
        case rel => exact ⟨j + 1, by omega, by go_num, HE, hbi⟩
        case measure => simp [intOf]; omega
       ·have t3 : (E != 0) = true := by simp [hz]
        have HE := hf.2 hz
        clear hz hE hstp hJK fin hf
        go_wp2
        go_ret
        exact ⟨by rw [HE.out]; rfl, hbi⟩
   ·obtain rfl : k = l.length := by omega
    have HE : Hid (plcE n l = 0) := by unfold Hid; rw [HK.out, List.drop_length]; rfl
    go_wp2
    go_ret
    exact ⟨by rw [HE.out]; rfl, hbw⟩
theorem l5plan_any (l : List Plc) (A : Option Addr) (c : Nat) (w : World) (h : Rd plc 3 w A l) (hl : l.length ≤ 100000) : Calls Tryz.prog 27 #[.slice A l.length c] w (RG5 plc 3 59 w l) := by
 go_enter Tryz.func27, Tryz.ntmps27
 go_wp2
 go_loopw [3, 7] (fun o i wr => ∃ k : Nat, k ≤ l.length ∧ i = .int .i64 k ∧ Own plc 3 w.heap.size 59 wr o (l.take k) ∧ Below w.heap.size w wr) (fun _ i _ => l.length - (intOf i).toNat)
 case atStart => exact ⟨0, Nat.zero_le _, rfl, Own.nil_, bl_refl⟩
 case round =>
  obtain ⟨k, hk, rfl, hO, hb⟩ := hrel
  obtain ⟨wo, rfl⟩ : ∃ x, x = wr := ⟨_, rfl⟩
  by_cases hlt : k < l.length
  ·obtain ⟨b, off, rfl, hbk, e0, e1, e2⟩ := (h.below hb).plc hlt
   have HT := Lib.hid (List.take_succ_eq_append_getElem hlt)
   have hlk : (l.take k).length ≤ 100000 := by simp; omega
   obtain ⟨P, hP⟩ : ∃ z, l.take k = z := ⟨_, rfl⟩
   rw [hP] at hO HT hlk
   obtain ⟨⟨x0, x1, x2⟩, hx⟩ : ∃ z, l[k] = z := ⟨_, rfl⟩
   rw [hx] at e0 e1 e2 HT
   simp only at e0 e1 e2
   have hs : w.heap.size ≤ wo.heap.size := hb.size
   have hu := Sl.oneG (enc := plc) (sz := 3) wo 59 (x0, x1, x2) #[.int .i64 x0, .bool x1, .int .i64 x2] rfl
   clear hP hx
   go_wp2_with (at_builtin; refine wpList_app rfl plc_elem plc_len plc_one _ _ rfl w.heap.size _ _ _ [(x0, x1, x2)] rfl rfl (hO.alloc _) hu (by simp [maxLen]; omega) (by simp; omega) (by simp; omega) ?_; intro v9 w9 hO9 hg9)
   have hb9 : Below w.heap.size w w9 := bl_grown hg9 (bl_alloc hb _) (fun j e => (hO.lt j e).1)
   go_wp2
   go_roundw
   case rel => exact ⟨k + 1, by omega, by go_num, by rw [HT.out]; exact hO9, hb9⟩
   case measure => simp [intOf]; omega
  ·obtain rfl : k = l.length := by omega
   rw [List.take_length] at hO
   go_wp2
   go_ret
   exact ⟨_, rfl, hO, hb⟩
def vldP (l : List Pan) (k : Int) : Bool := decide ((l.length : Int) ≤ k) && (shortPs l k 8 && decide (pieE l = 0))
theorem l5valid_any {v : Value} (l : List Pan) (k : Int) (w : World) (h : SlP w v l) (hnm : ∀ p ∈ l, p.1.length ≤ maxLen) : Calls Tryz.prog 22 #[v, .int .i64 k] w (RV w (.bool (vldP l k))) := by
 have cS := fun W (hb : Below w.heap.size w W) => l5short_any l k W (h.below hb) hnm
 have HV : Hid (vldP l k = (decide ((l.length : Int) ≤ k) && (shortPs l k 8 && decide (pieE l = 0)))) := rfl
 have HC := Lib.hid (fun (hs : shortPs l k 8 = true) W (hb : Below w.heap.size w W) => rcheckPieces_any l W (h.below hb)
  (fun p hp => by have := (shortP_words ((shortPs_in hs).2.2 p hp)).1; omega)
  (fun p hp => by
   obtain ⟨_, ⟨_, h1⟩, _, h2⟩ := shortP_words ((shortPs_in hs).2.2 p hp)
   exact ⟨fun e he => by have := h1 e he; omega, fun e he => by have := h2 e he; omega⟩)
  (by have := (shortPs_in hs).1; omega))
 have hln : ∃ A c, v = .slice A l.length c := by
  obtain ⟨xs, ⟨A, c, rfl, _⟩, hx⟩ := h
  exact ⟨A, c, by rw [hx.len]⟩
 obtain ⟨A, c, rfl⟩ := hln
 obtain ⟨n, hn⟩ : ∃ n, l.length = n := ⟨_, rfl⟩
 rw [hn] at cS HC HV ⊢
 obtain ⟨V, hV⟩ : ∃ z, vldP l k = z := ⟨_, rfl⟩
 rw [hV] at HV ⊢
 obtain ⟨q, hq⟩ : ∃ z, shortPs l k 8 = z := ⟨_, rfl⟩
 rw [hq] at cS HC HV
 obtain ⟨E, hE⟩ : ∃ z, pieE l = z := ⟨_, rfl⟩
 rw [hE] at HC HV
 clear hn hV hq hE h hnm
 by_cases h1 : (n : Int) ≤ k
 ·have t1 : ((n : Int) ≤ k) = True := eq_true h1
  cases q
  ·have HE : Hid (V = false) := by unfold Hid; rw [HV.out]; simp
   clear h1 HV HC
   go_enter Tryz.func22, Tryz.ntmps22
   go_wp2_with fail
   refine (cS _ (by (repeat first|exact J0|assumption|(apply J1;assumption)|apply J2|apply J3|apply J4))).mono ?_
   rintro e w1 ⟨rfl, hb1⟩
   go_wp2
   go_ret
   exact ⟨by rw [HE.out]; rfl, by (repeat first|exact J0|assumption|(apply J1;assumption)|apply J2|apply J3|apply J4)⟩
  ·have cC := HC.out rfl
   by_cases hz : E = 0
   ·have t2 : (E == 0) = true := by simp [hz]
    have HE : Hid (V = true) := by unfold Hid; rw [HV.out, decide_eq_true h1, decide_eq_true hz]; rfl
    clear h1 HV HC hz
    go_enter Tryz.func22, Tryz.ntmps22
    go_wp2_with fail
    refine (cS _ (by (repeat first|exact J0|assumption|(apply J1;assumption)|apply J2|apply J3|apply J4))).mono ?_
    rintro e w1 ⟨rfl, hb1⟩
    go_wp2_with fail
    refine (cC _ (by (repeat first|exact J0|assumption|(apply J1;assumption)|apply J2|apply J3|apply J4))).mono ?_
    rintro e w2 ⟨rfl, hb2⟩
    go_wp2
    go_ret
    exact ⟨by rw [HE.out]; rfl, by (repeat first|exact J0|assumption|(apply J1;assumption)|apply J2|apply J3|apply J4)⟩
   ·have t2 : (E == 0) = false := by simp [hz]
    have HE : Hid (V = false) := by unfold Hid; rw [HV.out, decide_eq_false hz]; simp
    clear h1 HV HC hz
    go_enter Tryz.func22, Tryz.ntmps22
    go_wp2_with fail
    refine (cS _ (by (repeat first|exact J0|assumption|(apply J1;assumption)|apply J2|apply J3|apply J4))).mono ?_
    rintro e w1 ⟨rfl, hb1⟩
    go_wp2_with fail
    refine (cC _ (by (repeat first|exact J0|assumption|(apply J1;assumption)|apply J2|apply J3|apply J4))).mono ?_
    rintro e w2 ⟨rfl, hb2⟩
    go_wp2
    go_ret
    exact ⟨by rw [HE.out]; rfl, by (repeat first|exact J0|assumption|(apply J1;assumption)|apply J2|apply J3|apply J4)⟩
 ·have t1 : ((n : Int) ≤ k) = False := eq_false h1
  have HE : Hid (V = false) := by unfold Hid; rw [HV.out, decide_eq_false h1]; rfl
  clear h1 HV HC
  go_enter Tryz.func22, Tryz.ntmps22
  go_wp2
  go_ret
  exact ⟨by rw [HE.out]; rfl, by (repeat first|exact J0|assumption|(apply J1;assumption)|apply J2|apply J3|apply J4)⟩
end Go.Proofs.YtgndakgggfbanaaGreatDoor

/- The law of Bale: valid, plan; the reference: CheckPlaces, walked. Conditions: bounds. -/
import Derived.Test.YtpcgeihemkhkjaaGreatDoorS44
import Derived.Test.YtpcgeihemkhkjaaGreatDoorS41
import Derived.Test.YtpcgeihemkhkjaaGreatDoorS45
import Derived.Test.YtpcgeihemkhkjaaGreatDoorS28
import Derived.Test.YtpcgeihemkhkjaaGreatDoorS09
import Derived.Laws.CopyRow
import Derived.Test.YtpcgeihemkhkjaaGreatDoorS04
import Derived.Test.YtpcgeihemkhkjaaGreatDoorS21
import Derived.Test.YtpcgeihemkhkjaaGreatDoorS43
import Derived.Test.YtpcgeihemkhkjaaGreatDoorS38
import Derived.Test.YtpcgeihemkhkjaaGreatDoorS22
import Derived.Test.YtpcgeihemkhkjaaGreatDoorS30
import Derived.Test.YtpcgeihemkhkjaaGreatDoorS15
import Derived.Test.YtpcgeihemkhkjaaGreatDoorS37
import Derived.Test.YtpcgeihemkhkjaaGreatDoorS39
import Derived.Test.YtpcgeihemkhkjaaGreatDoorS35
namespace Go.Proofs.YtpcgeihemkhkjaaGreatDoor
open Go.RowKit Go.ChangeMaps
set_option maxHeartbeats 4000000
set_option maxRecDepth 100000
attribute [local go_sem] Oper.semAt_some
theorem Ztj (a : Int) (w : World) : Calls Tryz.prog 144 #[.int .i64 a] w (RV w (.int .i64 (atE_ a))) := by
  have cR := fun W => Z5a a (-100000) 100000 W
  have HZ : Hid (atE_ a = Z17 [Z16 a (-100000) 100000, Z15 (decide (a % 2 ≠ 0)) 14]) := rfl
  by_cases h1 : a < -100000 ∨ 100000 < a
  · have h2 : Z16 a (-100000) 100000 = 3 := by unfold Z16 Z15; rw [if_pos]; rcases h1 with h | h <;> simp [h]
    rw [h2] at cR; have HE : Hid (atE_ a = 3) := by unfold Hid; rw [HZ.out, h2]; rfl
    clear h1 h2 HZ; go_enter Tryz.func144, Tryz.ntmps144
    go_wp2_with fail; refine (cR _).mono ?_
    rintro e w1 ⟨rfl, hb1⟩; go_wp2; go_ret; exact ⟨by rw [HE.out]; rfl, by (repeat first|exact J0|assumption|(apply J1;assumption)|apply J2|apply J3|apply J4)⟩
  · have h2 : Z16 a (-100000) 100000 = 0 := by
      unfold Z16 Z15; rw [if_neg]; simp
      omega
    rw [h2] at cR; by_cases he : a % 2 = 0
    · have t1 : (a.tmod 2 == 0) = true := by rw [Zt3 he]; rfl
      have t2 : (a.tmod 2 != 0) = false := by rw [Zt3 he]; rfl
      have HE : Hid (atE_ a = 0) := by unfold Hid; rw [HZ.out, h2]; simp [Z17, Z15, he]
      clear h1 h2 he HZ; go_enter Tryz.func144, Tryz.ntmps144
      go_wp2_with fail; refine (cR _).mono ?_
      rintro e w1 ⟨rfl, hb1⟩; go_wp2; go_ret; exact ⟨by rw [HE.out]; rfl, by (repeat first|exact J0|assumption|(apply J1;assumption)|apply J2|apply J3|apply J4)⟩
    · have t1 : (a.tmod 2 == 0) = false := beq_false_of_ne (Zt4 he)
      have t2 : (a.tmod 2 != 0) = true := by simpa using Zt4 he
      have HE : Hid (atE_ a = 14) := by unfold Hid; rw [HZ.out, h2]; simp [Z17, Z15, he]
      clear h1 h2 he HZ; go_enter Tryz.func144, Tryz.ntmps144
      go_wp2_with fail; refine (cR _).mono ?_
      rintro e w1 ⟨rfl, hb1⟩; go_wp2; go_ret; exact ⟨by rw [HE.out]; rfl, by (repeat first|exact J0|assumption|(apply J1;assumption)|apply J2|apply J3|apply J4)⟩
theorem Ztk {n : Nat} {D : List Plc} {x : Plc} (h : x.1 < 0 ∨ (n : Int) ≤ x.1) : Zit n D x = 10 := by
 unfold Zit Z15
 rw [if_pos (by rcases h with h | h <;> simp [h])]
 rfl
theorem Ztl {n : Nat} {D : List Plc} {x : Plc} (h : ¬ (x.1 < 0 ∨ (n : Int) ≤ x.1)) : Zit n D x = if (D.any fun o => decide (o.1 = x.1)) = true then 9 else atE_ x.2.2 := by
 have h1 : (decide (x.1 < 0) || decide ((n : Int) ≤ x.1)) = false := by simp; omega
 unfold Zit
 rw [h1]
 by_cases hd : (D.any fun o => decide (o.1 = x.1)) = true
 ·rw [if_pos hd, hd]; rfl
 ·rw [if_neg hd]
  rw [show (D.any fun o => decide (o.1 = x.1)) = false from Bool.eq_false_iff.2 hd]
  by_cases ha : atE_ x.2.2 = 0
  ·rw [ha]; rfl
  ·simp [Z17, Z15, ha]
theorem Ztm (a : Int) : atE_ a ≠ 10 := by
 unfold atE_ Z16 Z15
 simp only [Z17]
 split <;> split <;> (try split) <;> omega
theorem Ztn {n : Nat} {D : List Plc} {x : Plc} (h : ¬ (x.1 < 0 ∨ (n : Int) ≤ x.1)) : Zit n D x ≠ 10 := by
 rw [Ztl h]
 split
 ·decide
 ·exact Ztm _
theorem Zto {n : Nat} {l : List Plc} {j : Nat} (hj : j < l.length) {x : Plc} (h : ¬ (x.1 < 0 ∨ (n : Int) ≤ x.1)) : Zit n (l.take (j + 1)) x = if l[j].1 = x.1 then 9 else Zit n (l.take j) x := by
 rw [Ztl h, Ztl h, List.take_succ_eq_append_getElem hj, List.any_append]
 by_cases e : l[j].1 = x.1
 ·simp [e]
 ·rw [if_neg e, List.any_cons, List.any_nil, decide_eq_false e, Bool.or_false, Bool.or_false]
theorem Ztp {n : Nat} {l : List Plc} {x : Plc} : Zit n (l.take 0) x = if x.1 < 0 ∨ (n : Int) ≤ x.1 then 10 else atE_ x.2.2 := by
 by_cases h : x.1 < 0 ∨ (n : Int) ≤ x.1
 ·rw [Ztk h, if_pos h]
 ·rw [Ztl h, if_neg h]; rfl
theorem Ztq (x : Plc) (n : Nat) (w : World) : Calls Tryz.prog 78 #[.agg #[.int .i64 x.1, .bool x.2.1, .int .i64 x.2.2], .int .i64 n] w (RV w (.int .i64 (if x.1 < 0 ∨ (n : Int) ≤ x.1 then 10 else atE_ x.2.2))) := by
 obtain ⟨p, t, a⟩ := x
 simp only
 have cA := fun W => Ztj a W
 have hP := Blk.new w 101 #[.int .i64 p, .bool t, .int .i64 a]
 have fP := hP.facts
 obtain ⟨R, hR⟩ : ∃ z, (if p < 0 ∨ (n : Int) ≤ p then 10 else atE_ a) = z := ⟨_, rfl⟩
 have HR := Lib.hid hR
 rw [hR]
 clear hR
 by_cases h1 : p < 0
 ·have t1 : (p < 0) = True := eq_true h1
  have HE : Hid (R = 10) := by unfold Hid; rw [← HR.out, if_pos (.inl h1)]
  clear h1 HR; go_enter Tryz.func78, Tryz.ntmps78
  go_wp2; go_ret; exact ⟨by rw [HE.out]; rfl, by (repeat first|exact J0|assumption|(apply J1;assumption)|apply J2|apply J3|apply J4)⟩
 ·have t1 : (p < 0) = False := eq_false h1
  by_cases h2 : (n : Int) ≤ p
  ·have t2 : ((n : Int) ≤ p) = True := eq_true h2
   have HE : Hid (R = 10) := by unfold Hid; rw [← HR.out, if_pos (.inr h2)]
   clear h1 h2 HR; go_enter Tryz.func78, Tryz.ntmps78
   go_wp2; go_ret; exact ⟨by rw [HE.out]; rfl, by (repeat first|exact J0|assumption|(apply J1;assumption)|apply J2|apply J3|apply J4)⟩
  ·have t2 : ((n : Int) ≤ p) = False := eq_false h2
   have HE : Hid (R = atE_ a) := by unfold Hid; rw [← HR.out, if_neg (by omega)]
   clear h1 h2 HR; go_enter Tryz.func78, Tryz.ntmps78
   go_wp2_with fail; refine (cA _).mono ?_
   rintro e w1 ⟨rfl, hb1⟩; go_wp2; go_ret; exact ⟨by rw [HE.out]; rfl, by (repeat first|exact J0|assumption|(apply J1;assumption)|apply J2|apply J3|apply J4)⟩
theorem rcheckPlaces_any (l : List Plc) (n : Nat) (A : Option Addr) (c : Nat) (w : World) (h : Rd plc 3 w A l) : Calls Tryz.prog 24 #[.slice A l.length c, .int .i64 n] w (RV w (.int .i64 (plcE n l))) := by
 by_cases h16 : 16 < l.length
 ·have HE : Hid (plcE n l = 5) := by unfold Hid plcE; rw [if_pos h16]
  have t2 : (16 < (l.length : Int)) = True := eq_true (by omega)
  clear h16; go_enter Tryz.func24, Tryz.ntmps24
  go_wp2; go_ret; exact ⟨by rw [HE.out]; rfl, by (repeat first|exact J0|assumption|(apply J1;assumption)|apply J2|apply J3|apply J4)⟩
 ·have HE : Hid (plcE n l = plcG n (l.take 0) (l.drop 0)) := by unfold Hid plcE; rw [if_neg h16]; rfl
  have t2 : (16 < (l.length : Int)) = False := eq_false (by omega)
  have hl16 : l.length ≤ 16 := by omega
  clear h16; go_enter Tryz.func24, Tryz.ntmps24
  go_wp2; go_loopw [5] (fun s wr => ∃ k : Nat, k ≤ l.length ∧ s = .int .i64 k ∧ Hid (plcE n l = plcG n (l.take k) (l.drop k)) ∧ Below w.heap.size w wr) (fun s _ => l.length - (intOf s).toNat)
  case atStart => exact ⟨0, Nat.zero_le _, rfl, HE, Z03⟩
  case round =>
   clear t2 HE; obtain ⟨k, hk, rfl, HK, hbw⟩ := hrel; obtain ⟨wo, rfl⟩ : ∃ x, x = wr := ⟨_, rfl⟩
   by_cases hlt : k < l.length
   ·have HF := Lib.hid (Zm3 (n := n) hlt)
    obtain ⟨b, off, rfl, hb, e0, e1, e2⟩ := (h.below hbw).plc hlt
    obtain ⟨x, hxe⟩ : ∃ x, l[k] = x := ⟨_, rfl⟩
    rw [hxe] at HF e0 e1 e2; have hcp := fun W => Ztq x n W
    have H0 := Lib.hid (Ztp (n := n) (l := l) (x := x))
    have HX : Hid (l[k].1 = x.1) := by unfold Hid; rw [hxe]
    have HBD : Hid (x.1 < 0 ∨ (n : Int) ≤ x.1 → ∀ D, Zit n D x = 10) := fun z D => Ztk z
    have HGD : Hid (¬ (x.1 < 0 ∨ (n : Int) ≤ x.1) → (∀ D, Zit n D x ≠ 10) ∧ ∀ (j : Nat) (hj : j < l.length), Zit n (l.take (j + 1)) x = if l[j].1 = x.1 then 9 else Zit n (l.take j) x) := fun z => ⟨fun D => Ztn z, fun j hj => Zto hj z⟩
    have HCS : Hid ((x.1 < 0 ∨ (n : Int) ≤ x.1) ∨ ¬ (x.1 < 0 ∨ (n : Int) ≤ x.1)) := Classical.em _
    obtain ⟨E0, hE0⟩ : ∃ z, (if x.1 < 0 ∨ (n : Int) ≤ x.1 then 10 else atE_ x.2.2) = z := ⟨_, rfl⟩
    rw [hE0] at hcp H0; obtain ⟨x0, x1, x2⟩ := x; simp only at e0 e1 e2 hcp HX HBD HGD HCS
    have hb' : b < wo.heap.size := hb
    clear hxe hE0; go_upto_region 6 with fail; go_wp2_with fail; refine (hcp _).mono ?_
    rintro e w3 ⟨rfl, hb3⟩; have hbw3 := Z08 hb3 hbw
    have c0 := (hb3.cell (p := ⟨b, off + k * 3, none⟩) hb').trans e0
    go_wp2_with fail; go_loopw [6, 7] (fun e i wr => ∃ j : Nat, j ≤ k ∧ i = .int .i64 j ∧ e = .int .i64 (Zit n (l.take j) (x0, x1, x2)) ∧ Below w3.heap.size w3 wr) (fun _ i _ => k - (intOf i).toNat)
    case atStart => exact ⟨0, Nat.zero_le _, rfl, by rw [H0.out], Z03⟩
    case round =>
     clear H0 e0 e1 e2 hb; obtain ⟨j, hj, rfl, rfl, hb4⟩ := hrel; obtain ⟨wi, rfl⟩ : ∃ x, x = wr := ⟨_, rfl⟩
     have hbi := Z08 hb4 hbw3
     have hJK : Hid (j = k → Zit n (l.take k) (x0, x1, x2) = Zit n (l.take j) (x0, x1, x2)) := fun z => by rw [z]
     have fin : ∀ E, Zit n (l.take k) (x0, x1, x2) = E → (E = 0 → Hid (plcE n l = plcG n (l.take (k + 1)) (l.drop (k + 1)))) ∧ (E ≠ 0 → Hid (plcE n l = E)) := fun E z => by
      have h1 := HK.out.trans HF.out
      rw [z] at h1; exact ⟨fun y => by unfold Hid; rw [h1, if_pos y], fun y => by unfold Hid; rw [h1, if_neg y]⟩
     rcases HCS.out with hbad | hgood
     ·have hE : Zit n (l.take j) (x0, x1, x2) = 10 := HBD.out hbad _
      have HE := (fin 10 (HBD.out hbad _)).2 (by decide)
      rw [hE]; clear hE hbad fin hJK; by_cases hjk : j < k
      ·have u1 : ((j : Int) < (k : Int)) = True := eq_true (by omega)
       have u1' : (j < k) = True := eq_true hjk
       clear hjk; go_wp2; go_ret; exact ⟨by rw [HE.out]; rfl, hbi⟩
      ·have u1 : ((j : Int) < (k : Int)) = False := eq_false (by omega)
       have u1' : (j < k) = False := eq_false hjk
       clear hjk; go_wp2; go_ret; exact ⟨by rw [HE.out]; rfl, hbi⟩
     ·obtain ⟨hne, hstp⟩ := HGD.out hgood
      have hnj := hne (l.take j)
      obtain ⟨E, hE⟩ : ∃ z, Zit n (l.take j) (x0, x1, x2) = z := ⟨_, rfl⟩
      rw [hE] at hnj hJK ⊢; have t1 : (E != 10) = true := by simpa using hnj
      clear hne hgood hnj; by_cases hjk : j < k
      ·have hjl : j < l.length := by omega
       have hst := Lib.hid (hstp j hjl)
       rw [hE] at hst; obtain ⟨b2, o2, eA, hb2, f0, f1, f2⟩ := (h.below hbi).plc hjl
       obtain ⟨rfl, rfl⟩ : b = b2 ∧ off = o2 := by simpa using eA
       have c4 := (hb4.cell (p := ⟨b, off + k * 3, none⟩) (Nat.lt_of_lt_of_le hb' hb3.size)).trans c0
       obtain ⟨⟨y0, y1, y2⟩, hy⟩ : ∃ z, l[j] = z := ⟨_, rfl⟩
       rw [hy] at f0 hst; simp only at f0 hst
       by_cases hyx : y0 = x0
       ·have t2 : (y0 == x0) = true := by simpa using hyx
        have HS2 : Hid (Zit n (l.take (j + 1)) (x0, x1, x2) = 9) := by unfold Hid; rw [hst.out, if_pos hyx]
        clear hy hE hstp hJK fin hjl f1 f2 eA hyx hst; go_upto_region 10 with fail; refine Z0z [0, 1, 2, 3, 4, 5, 6, 7, 8, 9, 10] [] [] (by kernel_rfl) (by kernel_rfl) (fun d _ _ _ _ h => by cases d <;> exact h) ?_
        simp only [List.map_cons, List.map_nil, List.getD_cons_zero, List.getD_cons_succ]; repeat (go_big_quiet_step (fail))
        refine wpQuiet_nil ?_; refine Z10 ?_; go_wp2; go_roundw; case rel => exact ⟨j + 1, by omega, by go_num, by rw [HS2.out], by (repeat first|exact J0|assumption|(apply J1;assumption)|apply J2|apply J3|apply J4)⟩
        case measure => simp [intOf]; omega
       ·have t2 : (y0 == x0) = false := beq_false_of_ne hyx
        have HS2 : Hid (Zit n (l.take (j + 1)) (x0, x1, x2) = E) := by unfold Hid; rw [hst.out, if_neg hyx]
        clear hy hE hstp hJK fin hjl f1 f2 eA hyx hst; go_upto_region 10 with fail; refine Z0z [0, 1, 2, 3, 4, 5, 6, 7, 8, 9, 10] [] [] (by kernel_rfl) (by kernel_rfl) (fun d _ _ _ _ h => by cases d <;> exact h) ?_
        simp only [List.map_cons, List.map_nil, List.getD_cons_zero, List.getD_cons_succ]; repeat (go_big_quiet_step (fail))
        refine wpQuiet_nil ?_; refine Z10 ?_; go_wp2; go_roundw; case rel => exact ⟨j + 1, by omega, by go_num, by rw [HS2.out], by (repeat first|exact J0|assumption|(apply J1;assumption)|apply J2|apply J3|apply J4)⟩
        case measure => simp [intOf]; omega
      ·obtain rfl : j = k := by omega
       have hf := fin E (hJK.out rfl)
       by_cases hz : E = 0
       ·have t3 : (E != 0) = false := by simp [hz]
        have HE := hf.1 hz
        clear hz hE hstp hJK fin hf; go_wp2; go_roundw; case rel => exact ⟨j + 1, by omega, by go_num, HE, hbi⟩
        case measure => simp [intOf]; omega
       ·have t3 : (E != 0) = true := by simp [hz]
        have HE := hf.2 hz
        clear hz hE hstp hJK fin hf; go_wp2; go_ret; exact ⟨by rw [HE.out]; rfl, hbi⟩
   ·obtain rfl : k = l.length := by omega
    have HE : Hid (plcE n l = 0) := by unfold Hid; rw [HK.out, List.drop_length]; rfl
    go_wp2; go_ret; exact ⟨by rw [HE.out]; rfl, hbw⟩
theorem l5plan_any (l : List Plc) (A : Option Addr) (c : Nat) (w : World) (h : Rd plc 3 w A l) (hl : l.length ≤ 100000) : Calls Tryz.prog 21 #[.slice A l.length c] w (RG5 plc 3 100 w l) := by
 go_enter Tryz.func21, Tryz.ntmps21
 go_wp2
 go_loopw [3, 7] (fun o i wr => ∃ k : Nat, k ≤ l.length ∧ i = .int .i64 k ∧ Own plc 3 w.heap.size 100 wr o (l.take k) ∧ Below w.heap.size w wr) (fun _ i _ => l.length - (intOf i).toNat)
 case atStart => exact ⟨0, Nat.zero_le _, rfl, Own.nil_, Z03⟩
 case round =>
  obtain ⟨k, hk, rfl, hO, hb⟩ := hrel; obtain ⟨wo, rfl⟩ : ∃ x, x = wr := ⟨_, rfl⟩
  by_cases hlt : k < l.length
  ·obtain ⟨b, off, rfl, hbk, e0, e1, e2⟩ := (h.below hb).plc hlt
   have HT := Lib.hid (List.take_succ_eq_append_getElem hlt)
   have hlk : (l.take k).length ≤ 100000 := by simp; omega
   obtain ⟨P, hP⟩ : ∃ z, l.take k = z := ⟨_, rfl⟩
   rw [hP] at hO HT hlk; obtain ⟨⟨x0, x1, x2⟩, hx⟩ : ∃ z, l[k] = z := ⟨_, rfl⟩
   rw [hx] at e0 e1 e2 HT; simp only at e0 e1 e2
   have hs : w.heap.size ≤ wo.heap.size := hb.size
   have hu := Sl.oneG (enc := plc) (sz := 3) wo 100 (x0, x1, x2) #[.int .i64 x0, .bool x1, .int .i64 x2] rfl
   clear hP hx; go_wp2_with (at_builtin; refine Z3y rfl Zja Zj7 Zj9 _ _ rfl w.heap.size _ _ _ [(x0, x1, x2)] rfl rfl (hO.alloc _) hu (by simp [maxLen]; omega) (by simp; omega) (by simp; omega) ?_; intro v9 w9 hO9 hg9)
   have hb9 : Below w.heap.size w w9 := Z09 hg9 (Z04 hb _) (fun j e => (hO.lt j e).1)
   go_wp2; go_roundw; case rel => exact ⟨k + 1, by omega, by go_num, by rw [HT.out]; exact hO9, hb9⟩
   case measure => simp [intOf]; omega
  ·obtain rfl : k = l.length := by omega
   rw [List.take_length] at hO; go_wp2; go_ret; exact ⟨_, rfl, hO, hb⟩
end Go.Proofs.YtpcgeihemkhkjaaGreatDoor
namespace Go.Proofs.YtpcgeihemkhkjaaGreatDoor
open Go.RowKit Go.ChangeMaps
set_option maxHeartbeats 4000000
set_option maxRecDepth 100000
theorem PieL.ok {l : List Pan} (h : PieL l) {o : Plc} (ho : InP l o) : Zas (pcP l o) := by
 obtain ⟨n, t, a⟩ := o
 obtain ⟨k, hk0, hk⟩ := ho.nat
 simp only at hk0
 subst hk0
 rw [Zld hk]
 have hp := h _ (List.getElem_mem hk)
 cases t
 ·exact Zaw hp.er
 ·exact Zaw hp.te
theorem PieL.v {l : List Pan} (h : PieL l) : PcsV l := fun p hp => ⟨(h p hp).er, (h p hp).te⟩
theorem Ztr {a : Int} (h1 : -100000 ≤ a ∧ a ≤ 100000) (h2 : a % 2 = 0) : Z1a a 0 = 0 := by
 have f0 : farB 0 = false := by kernel_rfl
 have fa : farB a = false := by
  unfold farB; simp
  omega
 unfold Z1a
 rw [fa, f0, if_neg (by simp), if_pos (by omega)]
def rnI (l : List Pan) (plan : List Plc) : Bool := plan.all fun x => Z5r (pnet l x)
theorem Zts {l : List Pan} (hP : PieL l) {x : Plc} (hi : InP l x) (h1 : -100000 ≤ x.2.2 ∧ x.2.2 ≤ 100000) (h2 : x.2.2 % 2 = 0) :
  nsE1 l x = (if Z5r (pnet l x) = true then 0 else 3) ∧ (Z5r (pnet l x) = true → nsL1 l x = pnet l x) := by
 have hd : degE (netL (pcP l x)) x.2.2 0 = 0 := by
  unfold degE; rw [Ze3 (hP.ok hi) (Zmt hP hi), Ztr h1 h2]
  rfl
 unfold nsE1 nsL1 Zdd Zde shE shL
 rw [if_pos hd, if_pos hd]
 exact ⟨rfl, fun h => if_pos h⟩
theorem Ztt {l : List Pan} (hP : PieL l) : ∀ {plan : List Plc}, InL l plan → Zlh plan 100000 → EvnP plan →
  nsE l plan = (if rnI l plan = true then 0 else 3) ∧ (rnI l plan = true → plan.map (nsL1 l) = plan.map (pnet l))
 | [], _, _, _ => ⟨rfl, fun _ => rfl⟩
 | x :: r, hi, hn, he => by
  obtain ⟨a1, a2⟩ := Zts hP (hi x (List.mem_cons_self ..)) (hn x (List.mem_cons_self ..)) (he x (List.mem_cons_self ..))
  obtain ⟨b1, b2⟩ := Ztt hP (plan := r) (fun o ho => hi o (List.mem_cons_of_mem _ ho)) (fun o ho => hn o (List.mem_cons_of_mem _ ho)) (fun o ho => he o (List.mem_cons_of_mem _ ho))
  unfold nsE rnI at b1 ⊢; unfold rnI at b2; rw [List.map_cons, List.all_cons]; by_cases h : Z5r (pnet l x) = true
  ·rw [if_pos h] at a1
   rw [a1, h, Bool.true_and]; refine ⟨by simpa [Z17] using b1, fun hr => ?_⟩
   rw [List.map_cons, List.map_cons, a2 h, b2 hr]
  ·rw [if_neg h] at a1
   have h' : Z5r (pnet l x) = false := by simpa using h
   rw [a1, h', Bool.false_and, if_neg (by simp)]
   exact ⟨rfl, fun hr => by cases hr⟩
theorem nets_ref {l : List Pan} {plan : List Plc} (hnm : ∀ p ∈ l, p.1.length ≤ 1000000) (h : Zmg l plan = 0) :
  Zq0 l plan = (if rnI l plan = true then 0 else 3) ∧ Zq1 l plan = (if rnI l plan = true then plan.map (pnet l) else []) := by
 obtain ⟨hP, _, _, hi, hn, he⟩ := Zmh hnm h
 obtain ⟨b1, b2⟩ := Ztt hP hi hn he
 have e : Zq0 l plan = nsE l plan := by unfold Zq0; rw [if_pos h]
 refine ⟨e.trans b1, ?_⟩
 unfold Zq1
 rw [e, b1]
 by_cases hr : rnI l plan = true
 ·rw [if_pos hr, if_pos hr, if_pos rfl, b2 hr]
 ·rw [if_neg hr, if_neg hr, if_neg (by decide)]
def insR (b : Bal) (l : List Pan) (x : Plc) : Bool := decide (Z35 (pcP l x) ≤ b.2.1) && (decide (0 ≤ (Zin (pcP l x)).1 + x.2.2) && decide ((Zin (pcP l x)).2 + x.2.2 ≤ 2 * b.2.2))
theorem Ztu {b : Bal} {l : List Pan} {x : Plc} (ok : Zas (pcP l x)) : insR b l x = !outB b l x := by
 have hh := ok.high
 have e : ((stP l x).length : Int) = Z35 (pcP l x) := by
  unfold stP; rw [Zb3]; omega
 unfold insR outB
 rw [e]
 by_cases h1 : Z35 (pcP l x) ≤ b.2.1
 ·rw [decide_eq_true h1, decide_eq_false (by omega : ¬ b.2.1 < Z35 (pcP l x))]
  by_cases h2 : 0 ≤ (Zin (pcP l x)).1 + x.2.2
  ·rw [decide_eq_true h2, decide_eq_false (by omega : ¬ (Zin (pcP l x)).1 + x.2.2 < 0)]
   by_cases h3 : (Zin (pcP l x)).2 + x.2.2 ≤ 2 * b.2.2
   ·rw [decide_eq_true h3, decide_eq_false (by omega : ¬ 2 * b.2.2 < (Zin (pcP l x)).2 + x.2.2)]; rfl
   ·rw [decide_eq_false h3, decide_eq_true (by omega : 2 * b.2.2 < (Zin (pcP l x)).2 + x.2.2)]; rfl
  ·rw [decide_eq_false h2, decide_eq_true (by omega : (Zin (pcP l x)).1 + x.2.2 < 0)]; rfl
 ·rw [decide_eq_false h1, decide_eq_true (by omega : b.2.1 < Z35 (pcP l x))]; rfl
def freB (l : List Pan) (plan : List Plc) (A : List Strp) (at_ : Int) : Bool := plan.all fun o => Zsg (stP l o) o.2.2 A at_
theorem Ztv {l : List Pan} {plan : List Plc} {A : List Strp} {at_ : Int} : freB l plan A at_ = true ↔ Ziw l plan A at_ := by
 unfold freB Ziw
 rw [List.all_eq_true]
 exact forall_congr' fun o => imp_congr_right fun _ => Zsi
theorem Ztw {l : List Pan} (h : PcsV l) {done : List Plc} {x : Plc} (hi : InL l done) (hx : InP l x) (he : EvnP done) (hxe : x.2.2 % 2 = 0) : freB l done (stP l x) x.2.2 = !crsB l done x := by
 have := Zsd (l := l) (done := done) (x := x) (fun o ho => h.min (hi o ho) hx) he hxe
 cases hc : crsB l done x
 ·rw [hc] at this
  have : Ziw l done (stP l x) x.2.2 := Classical.byContradiction fun hn => by cases this.2 hn
  rw [Ztv.2 this]; rfl
 ·have hn := this.1 hc
  cases hf : freB l done (stP l x) x.2.2
  ·rfl
  ·exact absurd (Ztv.1 hf) hn
theorem Ztx {b : Bal} {l : List Pan} {plan : List Plc} {k : Nat} (hk : k < plan.length) : fitG b l (plan.take k) (plan.drop k) = if outB b l plan[k] = true then 32 else if crsB l (plan.take k) plan[k] = true then 16 else fitG b l (plan.take (k + 1)) (plan.drop (k + 1)) := by
 rw [List.drop_eq_getElem_cons hk, fitG, ← List.take_succ_eq_append_getElem hk]
attribute [local go_sem] Oper.semAt_some
theorem Zty {W : World} {v : Value} {l : List Pan} (h : SlP W v l) : ∃ A c, v = .slice A l.length c := by
 obtain ⟨xs, ⟨A, c, rfl, _⟩, hx⟩ := h
 exact ⟨A, c, by rw [hx.len]⟩
end Go.Proofs.YtpcgeihemkhkjaaGreatDoor
namespace Go.Proofs.YtpcgeihemkhkjaaGreatDoor
open Go.RowKit Go.ChangeMaps
set_option maxHeartbeats 4000000
set_option maxRecDepth 100000
theorem Ztz {l : List Pan} {plan : List Plc} {x : Plc} (h : PcsV l) (hi : InL l plan) (hx : InP l x) (hE : EvnP plan) {a : Int} (h0 : -(Zin (pcP l x)).1 ≤ a) (ha : a ≤ Zip l plan x) (hn : a % 2 ≠ 0 ∨ freB l plan (stP l x) a = false) : a + 1 ≤ Zip l plan x :=
 Zj1 hE (fun o ho => h.min (hi o ho) hx) h0 ha (hn.imp id fun hf hc => by rw [Ztv.2 hc] at hf; cases hf)
theorem Zu0 {l : List Pan} {plan : List Plc} {x : Plc} (h : PcsV l) (hi : InL l plan) (hx : InP l x) (hE : EvnP plan) {a : Int} (h0 : -(Zin (pcP l x)).1 ≤ a) (ha : a ≤ Zip l plan x) (he : a % 2 = 0) (hf : freB l plan (stP l x) a = true) : a = Zip l plan x :=
 Zj2 hE (fun o ho => h.min (hi o ho) hx) h0 ha he (Ztv.1 hf)
theorem Zu1 {l : List Pan} {plan : List Plc} {k : Nat} (hk : k < plan.length) {A : List Strp} {a : Int} : freB l (plan.take (k + 1)) A a = (freB l (plan.take k) A a && Zsg (stP l plan[k]) plan[k].2.2 A a) := by
 unfold freB
 rw [List.take_succ_eq_append_getElem hk, List.all_append]
 simp
theorem Zu2 {l : List Pan} {plan : List Plc} {k : Nat} (hk : k < plan.length) {A : List Strp} {a : Int} (h : Zsg (stP l plan[k]) plan[k].2.2 A a = false) : freB l plan A a = false := by
 unfold freB
 rw [List.all_eq_false]
 exact ⟨plan[k], List.getElem_mem hk, by simp [h]⟩
theorem Zu3 {l : List Pan} {plan : List Plc} {k : Nat} (hk : k < plan.length) : Zis l (plan.take (k + 1)) = max (Zis l (plan.take k)) ((Zin (pcP l plan[k])).2 + plan[k].2.2) := by
 unfold Zis
 rw [List.take_succ_eq_append_getElem hk, List.foldl_append]
 rfl
end Go.Proofs.YtpcgeihemkhkjaaGreatDoor

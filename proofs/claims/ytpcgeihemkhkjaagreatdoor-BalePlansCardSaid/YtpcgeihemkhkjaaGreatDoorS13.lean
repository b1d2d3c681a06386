/- The reference: heights, letters, outlines, walked. Conditions: the sides are valid. -/
import Derived.Test.YtpcgeihemkhkjaaGreatDoorS12
namespace Go.Proofs.YtpcgeihemkhkjaaGreatDoor
open Go.RowKit Go.ChangeMaps
set_option maxHeartbeats 4000000
set_option maxRecDepth 100000
attribute [local go_sem] Oper.semAt_some
theorem Zch {l : List Stp} {k : Nat} (hk : k < l.length) : Z2w (l.take (k + 1)) = Z2w (l.take k) + Z2v l[k].1 := by
 rw [List.take_succ_eq_append_getElem hk, Z2x]
 simp [Z2w]
theorem Zci (c : UInt8) : Z2v c = if c.toNat = 78 then 2 else if c.toNat = 66 then 1 else 0 := by
 unfold Z2v
 simp only [← UInt8.toNat_inj]
 rfl
theorem Zcj {v : Value} (l : List Stp) (w : World) (h : SlS w v l) (hlen : l.length ≤ 100000) : Calls Tryz.prog 97 #[v] w (RV w (.int .i64 (Z2w l))) := by
 obtain ⟨A, c, rfl, hlc, hcm, hr⟩ := h
 go_enter Tryz.func97, Tryz.ntmps97
 go_wp2
 go_loopw [3, 4] (fun n i wr => ∃ (k : Nat) (m : Int), k ≤ l.length ∧ i = .int .i64 k ∧ n = .int .i64 m ∧ (0 ≤ m ∧ m ≤ 2 * (k : Int)) ∧ Hid (Z2w (l.take k) = m) ∧ Below w.heap.size w wr) (fun _ i _ => l.length - (intOf i).toNat)
 case atStart => exact ⟨0, 0, Nat.zero_le _, rfl, rfl, by omega, rfl, by (repeat first|exact J0|assumption|(apply J1;assumption)|apply J2|apply J3|apply J4)⟩
 case round =>
  obtain ⟨k, m, hk, rfl, rfl, hm, H, hbw⟩ := hrel; obtain ⟨wo, rfl⟩ : ∃ x, x = wr := ⟨_, rfl⟩
  by_cases hlt : k < l.length
  ·obtain ⟨b, off, rfl, hb, e0, e1⟩ := (hr.below hbw).stp hlt
   have HD := Lib.hid (Zch hlt)
   have HC := Lib.hid (Zci l[k].1)
   obtain ⟨n, hn⟩ : ∃ n : Nat, l[k].1.toNat = n := ⟨_, rfl⟩
   rw [hn] at e0 HC; clear hn; by_cases h78 : n = 78
   ·have HN : Hid (Z2w (l.take (k + 1)) = m + 2) := by unfold Hid; rw [HD.out, H.out, HC.out, if_pos h78]
    subst h78; go_wp2; go_roundw; case rel => exact ⟨k + 1, m + 2, by omega, by go_num, rfl, by push_cast; omega, HN.out, hbw⟩
    case measure => simp [intOf]; omega
   ·have t1 : ((n : Int) == 78) = false := beq_false_of_ne (by omega)
    by_cases h66 : n = 66
    ·have HN : Hid (Z2w (l.take (k + 1)) = m + 1) := by unfold Hid; rw [HD.out, H.out, HC.out, if_neg h78, if_pos h66]
     subst h66; go_wp2; go_roundw; case rel => exact ⟨k + 1, m + 1, by omega, by go_num, rfl, by push_cast; omega, HN.out, hbw⟩
     case measure => simp [intOf]; omega
    ·have t2 : ((n : Int) == 66) = false := beq_false_of_ne (by omega)
     have HN : Hid (Z2w (l.take (k + 1)) = m) := by unfold Hid; rw [HD.out, H.out, HC.out, if_neg h78, if_neg h66]; omega
     clear h78 h66; go_wp2; go_roundw; case rel => exact ⟨k + 1, m, by omega, by go_num, rfl, by push_cast; omega, HN.out, hbw⟩
     case measure => simp [intOf]; omega
  ·obtain rfl : k = l.length := by omega
   have HN : Hid (Z2w l = m) := by have := H.out; rwa [List.take_length] at this
   go_wp2; go_ret; exact ⟨by rw [HN.out]; rfl, hbw⟩
theorem Zck {e : Edg} {j : Nat} (hj : j < e.1.length) : (Z2e e).take (j + 1) = (Z2e e).take j ++ [(e.1[j], e.2.2)] := by
 rw [List.take_succ_eq_append_getElem (by rw [Z2f]; exact hj)]
 simp [Z2e]
theorem Zcl {v : Value} (l : List Edg) (w : World) (h : SlE w v l) (hs : Z3b l) : Calls Tryz.prog 98 #[v] w (RG sc 2 227 w (stpL l)) := by
 obtain ⟨A, c, rfl, hlc, hcm, hr⟩ := h
 have hfew := hs.few
 have hlen := hs.len
 have hok := Lib.hid hs.ok
 go_enter Tryz.func98, Tryz.ntmps98
 go_wp2
 go_loopw [3, 4] (fun o i wr => ∃ k : Nat, k ≤ l.length ∧ i = .int .i64 k ∧ Own sc 2 w.heap.size 227 wr o (stpL (l.take k)) ∧ Below w.heap.size w wr) (fun _ i _ => l.length - (intOf i).toNat)
 case atStart => exact ⟨0, Nat.zero_le _, rfl, by simpa [stpL] using Own.nil_, by (repeat first|exact J0|assumption|(apply J1;assumption)|apply J2|apply J3|apply J4)⟩
 case round =>
  obtain ⟨k, hk, rfl, hO, hbw⟩ := hrel; obtain ⟨wo, rfl⟩ : ∃ x, x = wr := ⟨_, rfl⟩
  by_cases hlt : k < l.length
  ·obtain ⟨b, off, rfl, hb, e0, e1, e2⟩ := hr.edge hlt
   have HX := Lib.hid (Z2k hlt)
   have HL : Hid ((stpL (l.take k)).length + (edgS l[k]).length ≤ 512) := by
    unfold Hid; have h1 : stpL l = stpL (l.take (k + 1)) ++ stpL (l.drop (k + 1)) := by rw [← Z2j, List.take_append_drop]
    rw [h1, HX.out] at hlen; simp only [List.length_append] at hlen; omega
   have HE := Lib.hid (Z39 (hok.out _ (List.getElem_mem hlt)))
   obtain ⟨⟨s, t, q⟩, hx⟩ : ∃ z, l[k] = z := ⟨_, rfl⟩
   rw [hx] at e0 e1 e2 HX HL HE; simp only at e0 e1 e2
   clear hx; obtain ⟨S0, hS0⟩ : ∃ S, stpL (l.take k) = S := ⟨_, rfl⟩
   rw [hS0] at hO HX HL; clear hS0
   have hT : ∃ T : Nat, t = T ∧ T ≤ 64 ∧ s.length ≤ 64 := by
    obtain ⟨_, q2, _, q4, q5⟩ := HE.out; have q2' : s.length ≤ 64 := q2
    have q4' : 1 ≤ t := q4
    have q5' : t ≤ 64 := q5
    exact ⟨t.toNat, by omega, by omega, q2'⟩
   obtain ⟨T, rfl, hT64, hs64⟩ := hT; have HX2 : Hid (stpL (l.take (k + 1)) = S0 ++ timS (s, (T : Int), q) T) := HX.out
   have HL2 : Hid (S0.length + T * s.length ≤ 512) := by
    have := HL.out
    rw [Z2h] at this; exact this
   clear HX HL HE
   have hcell : ∀ W, Below w.heap.size w W → b < W.heap.size ∧ W.cell? ⟨b, off + k * 3, none⟩ = some (.string ⟨s.toArray⟩) ∧ W.cell? ⟨b, off + k * 3 + 1, none⟩ = some (.int .i64 (T : Int)) ∧ W.cell? ⟨b, off + k * 3 + 2, none⟩ = some (.bool q) := fun W hW =>
    ⟨Nat.lt_of_lt_of_le hb hW.size, (hW.cell (p := ⟨b, _, none⟩) hb).trans e0, (hW.cell (p := ⟨b, _, none⟩) hb).trans e1, (hW.cell (p := ⟨b, _, none⟩) hb).trans e2⟩
   have HCL := Lib.hid hcell
   clear e0 e1 e2 hcell hr; go_wp2; go_loopw [3, 5] (fun o i wr => ∃ m : Nat, m ≤ T ∧ i = .int .i64 m ∧ Own sc 2 w.heap.size 227 wr o (S0 ++ timS (s, (T : Int), q) m) ∧ Below w.heap.size w wr) (fun _ i _ => T - (intOf i).toNat)
   case atStart => exact ⟨0, Nat.zero_le _, rfl, by simpa [timS] using hO, hbw⟩
   case round =>
    obtain ⟨m, hm, rfl, hO2, hbw2⟩ := hrel; obtain ⟨wp, rfl⟩ : ∃ x, x = wr := ⟨_, rfl⟩
    obtain ⟨hb2, e0, e1, e2⟩ := HCL.out _ hbw2
    by_cases hlt2 : m < T
    ·have HX3 : Hid (timS (s, (T : Int), q) (m + 1) = timS (s, (T : Int), q) m ++ Z2e (s, (T : Int), q)) := rfl
     have HL3 : Hid ((S0 ++ timS (s, (T : Int), q) m).length + s.length ≤ 512) := by
      unfold Hid; have := HL2.out
      have h2 : (m + 1) * s.length ≤ T * s.length := Nat.mul_le_mul_right _ hlt2
      rw [List.length_append, Z2g]; simp only
      rw [Nat.succ_mul] at h2; omega
     obtain ⟨S1, hS1⟩ : ∃ S, S0 ++ timS (s, (T : Int), q) m = S := ⟨_, rfl⟩
     have HX4 : Hid (S0 ++ timS (s, (T : Int), q) (m + 1) = S1 ++ Z2e (s, (T : Int), q)) := by unfold Hid; rw [HX3.out, ← List.append_assoc, hS1]
     rw [hS1] at hO2 HL3; clear hS1 HX3; go_wp2; go_loopw [3, 6] (fun o i wr => ∃ j : Nat, j ≤ s.length ∧ i = .int .i64 j ∧ Own sc 2 w.heap.size 227 wr o (S1 ++ (Z2e (s, (T : Int), q)).take j) ∧ Below w.heap.size w wr) (fun _ i _ => s.length - (intOf i).toNat)
     case atStart => exact ⟨0, Nat.zero_le _, rfl, by simpa using hO2, hbw2⟩
     case round =>
      clear e0 e1 e2 hb2; obtain ⟨j, hj, rfl, hO3, hbw3⟩ := hrel; obtain ⟨wq, rfl⟩ : ∃ x, x = wr := ⟨_, rfl⟩
      obtain ⟨hb3, e0, e1, e2⟩ := HCL.out _ hbw3
      by_cases hlt3 : j < s.length
      ·have HW := Lib.hid (Zck (e := (s, (T : Int), q)) hlt3)
       have hSl : (S1 ++ (Z2e (s, (T : Int), q)).take j).length ≤ 512 := by
        have := HL3.out
        rw [List.length_append, List.length_take, Z2f]; simp only
        omega
       obtain ⟨S2, hS2⟩ : ∃ S, S1 ++ (Z2e (s, (T : Int), q)).take j = S := ⟨_, rfl⟩
       have HW2 : Hid (S1 ++ (Z2e (s, (T : Int), q)).take (j + 1) = S2 ++ [(s[j], q)]) := by unfold Hid; rw [HW.out, ← List.append_assoc, hS2]
       rw [hS2] at hO3 hSl; clear hS2 HW; obtain ⟨d, hd⟩ : ∃ d : UInt8, s[j] = d := ⟨_, rfl⟩
       have hd2 : (({ data := s.toArray } : ByteArray)[j]'hlt3) = d := hd
       rw [hd] at HW2; clear hd; obtain ⟨Ao, co, rfl⟩ := hO3.shape; go_upto_region 11 with fail; refine Z0z [0, 1, 2, 3, 4, 5, 6, 7, 8, 9, 10, 11, 12, 13] [(14, false)] [15, 16] (by kernel_rfl) (by kernel_rfl) (fun d _ _ _ _ h => by cases d <;> exact h) ?_
       simp only [List.map_cons, List.map_nil, List.getD_cons_zero, List.getD_cons_succ]; repeat (go_big_quiet_step (fail))
       refine wpQuiet_nil ?_; refine Z11 rfl (fun K hK => ?_); go_simp; refine hK _ _ (by (repeat first|exact J0|assumption|(apply J1;assumption)|apply J2|apply J3|apply J4)) ?_
       clear hK K; refine Z10 ?_; have hal : Below wq.heap.size wq (wq.drew.alloc (.cells #[.int .u8 d.toNat, .bool q] 227)) := Z04 (Z05 Z03) _
       have hu : Sl sc 2 (wq.drew.alloc (.cells #[.int .u8 d.toNat, .bool q] 227)) (.slice (some ⟨wq.heap.size, 0, none⟩) 1 1) [(d, q)] := Sl.oneG wq.drew _ (d, q) _ rfl
       go_wp2_with (at_builtin; refine Z3y rfl Z8q Z8j Z8m _ _ rfl w.heap.size _ _ _ [(d, q)] rfl rfl ((hO3.drew).alloc _) hu (by simp [maxLen]; omega) (by simp; omega) (Nat.le_trans hbw3.size hal.size) ?_; intro v3 w3 hu3 hgr3)
       have hb4 : Below w.heap.size w w3 := Z09 hgr3 (Z08 hal hbw3) (fun j e => (hO3.lt j e).1)
       go_wp2; go_roundw; case rel => exact ⟨j + 1, by omega, by go_num, by rw [HW2.out]; exact hu3, hb4⟩
       case measure => simp [intOf]; omega
      ·obtain rfl : j = s.length := by omega
       have HW : Hid ((Z2e (s, (T : Int), q)).take s.length = Z2e (s, (T : Int), q)) := List.take_of_length_le (by rw [Z2f]; exact Nat.le_refl _)
       rw [HW.out] at hO3; go_wp2; go_roundw; case rel => exact ⟨m + 1, by omega, by go_num, by rw [HX4.out]; exact hO3, hbw3⟩
       case measure => simp [intOf]; omega
    ·obtain rfl : m = T := by omega
     rw [← HX2.out] at hO2; go_wp2; go_roundw; case rel => exact ⟨k + 1, by omega, by go_num, hO2, hbw2⟩
     case measure => simp [intOf]; omega
  ·obtain rfl : k = l.length := by omega
   have HT := Lib.hid (show l.take l.length = l by rw [List.take_length])
   rw [HT.out] at hO; go_wp2; go_ret; exact ⟨_, rfl, hO, hbw⟩
theorem Own.oneG {α : Type} {enc : α → List Value} {sz : Nat} (w : World) {base : Nat} (hb : base ≤ w.heap.size) (t : TypeId) (x : α) (cs : Array Value) (hc : cs = (enc x).toArray) (hl : (enc x).length = sz) : Own enc sz base t (w.alloc (.cells cs t)) (.slice (some ⟨w.heap.size, 0, none⟩) 1 1) [x] := by
 subst hc
 exact ⟨by simp [hl], .inr ⟨w.heap.size, 1, _, rfl, hb, heap_alloc_new w _, Nat.le_refl _, by simp [maxLen], by simp [hl], by simp; rw [← hl, List.take_length]⟩⟩
theorem Zcm {right : Bool} {k : Knot} {l : List Stp} {j : Nat} (hj : j < l.length) : (outK right k l).take (j + 1 + 1) = (outK right k l).take (j + 1) ++ [posK right k (l.take (j + 1))] := by
 have h : j + 1 < (outK right k l).length := by rw [Z2p]; omega
 rw [List.take_succ_eq_append_getElem h, Z2r]
theorem Zcn {right : Bool} {k : Knot} {l : List Stp} {j : Nat} (hj : j < l.length) : posK right k (l.take (j + 1)) = Z2m right (posK right k (l.take j)) l[j] := by
 rw [List.take_succ_eq_append_getElem hj, Z2o]
theorem Zco (right : Bool) (x y : Int) (s : Stp) : Z2m right (x, y) s = if s.1.toNat = 78 then (x, y + 2) else if s.1.toNat = 66 then (x + (if s.2 = right then 1 else -1), y + 1) else (x + 2 * (if s.2 = right then 1 else -1), y) := by
 unfold Z2m aft Z2l
 simp only [← UInt8.toNat_inj, beq_iff_eq]
 rfl
theorem Zcp {v : Value} (x y : Int) (l : List Stp) (right : Bool) (w : World) (h : SlS w v l) (hlen : l.length ≤ 10000) (hx : -10000 ≤ x ∧ x ≤ 10000) (hy : 0 ≤ y ∧ y ≤ 10000) :
  Calls Tryz.prog 194 #[.agg #[.int .i64 x, .int .i64 y], v, .bool right] w (RG kc 2 90 w (outK right (x, y) l)) := by
 obtain ⟨A, c, rfl, hlc, hcm, hr⟩ := h
 have hN := Blk.new w 90 #[.int .i64 x, .int .i64 y]
 have fN := hN.facts
 have hO1 : Own kc 2 (w.heap.size + 1) 90 ((w.alloc (.cells #[.int .i64 x, .int .i64 y] 90)).alloc (.cells #[.int .i64 x, .int .i64 y] 90)) (.slice (some ⟨w.heap.size + 1, 0, none⟩) 1 1) [(x, y)] := by
  have := Own.oneG (enc := kc) (sz := 2) (w.alloc (.cells #[.int .i64 x, .int .i64 y] 90)) (base := w.heap.size + 1) (by simp) 90 (x, y) _ rfl rfl
  rwa [World.size_alloc] at this
 have hN1 := hN.alloc (.cells #[.int .i64 x, .int .i64 y] 90)
 have hb1 : Below w.heap.size w ((w.alloc (.cells #[.int .i64 x, .int .i64 y] 90)).alloc (.cells #[.int .i64 x, .int .i64 y] 90)) := Z04 (Z04 Z03 _) _
 have hsz1 : ((w.alloc (.cells #[.int .i64 x, .int .i64 y] 90)).alloc (.cells #[.int .i64 x, .int .i64 y] 90)).heap.size = w.heap.size + 2 := by simp
 go_enter Tryz.func194, Tryz.ntmps194
 go_wp2
 obtain ⟨w1, hw1⟩ : ∃ X, (w.alloc (.cells #[.int .i64 x, .int .i64 y] 90)).alloc (.cells #[.int .i64 x, .int .i64 y] 90) = X := ⟨_, rfl⟩
 rw [hw1] at hO1 hN1 hb1 hsz1 ⊢
 clear hN fN hw1
 go_loopw [7, 8] (fun o i wr => ∃ k : Nat, k ≤ l.length ∧ i = .int .i64 k ∧ Own kc 2 (w.heap.size + 1) 90 wr o ((outK right (x, y) l).take (k + 1)) ∧ Blk wr w.heap.size 90 #[.int .i64 (posK right (x, y) (l.take k)).1, .int .i64 (posK right (x, y) (l.take k)).2] ∧ Below w.heap.size w wr ∧ w.heap.size + 2 ≤ wr.heap.size) (fun _ i _ => l.length - (intOf i).toNat)
 case atStart => exact ⟨0, Nat.zero_le _, rfl, by cases l <;> simpa [outK] using hO1, by simpa [posK] using hN1, hb1, by omega⟩
 case round =>
  obtain ⟨k, hk, rfl, hO, hK, hbw, hsz⟩ := hrel; obtain ⟨wo, rfl⟩ : ∃ x, x = wr := ⟨_, rfl⟩
  by_cases hlt : k < l.length
  ·obtain ⟨b, off, rfl, hb, e0, e1⟩ := (hr.below hbw).stp hlt
   have HT := Lib.hid (Zcm (right := right) (k := (x, y)) hlt)
   have HP := Lib.hid (Zcn (right := right) (k := (x, y)) hlt)
   have hnear := Z2u (right := right) (n := 10000) (l.take k) (k := (x, y)) ⟨hx.1, hx.2, hy.1, hy.2⟩
   have htl : ((l.take k).length : Int) ≤ 10000 := by simp; omega
   have htk : ((outK right (x, y) l).take (k + 1)).length ≤ 10001 := by simp; omega
   obtain ⟨⟨X, Y⟩, hXY⟩ : ∃ z, posK right (x, y) (l.take k) = z := ⟨_, rfl⟩
   obtain ⟨L0, hL0⟩ : ∃ z, (outK right (x, y) l).take (k + 1) = z := ⟨_, rfl⟩
   rw [hXY] at hK HP hnear; rw [hL0] at hO HT htk; simp only at hK hnear
   have HS := Lib.hid (Zco right X Y l[k])
   obtain ⟨⟨d, q⟩, hd⟩ : ∃ z, l[k] = z := ⟨_, rfl⟩
   rw [hd] at e0 e1 HP HS; obtain ⟨n, hn⟩ : ∃ n : Nat, d.toNat = n := ⟨_, rfl⟩
   simp only at e0 e1
   rw [hn] at e0
   have HS2 : Hid (posK right (x, y) (l.take (k + 1)) = if n = 78 then (X, Y + 2) else if n = 66 then (X + (if q = right then 1 else -1), Y + 1) else (X + 2 * (if q = right then 1 else -1), Y)) := by
    unfold Hid; rw [HP.out, HS.out]; simp only [hn]
   clear hXY hL0 hd hn HS HP; obtain ⟨Ao, co, rfl⟩ := hO.shape; have fK := hK.facts
   have hlo := fun k e => (hO.lt k e).1
   by_cases hq : q = right
   ·have tq : (!(q == right)) = false := by simp [hq]
    by_cases h78 : n = 78
    ·have HR : Hid (posK right (x, y) (l.take (k + 1)) = (X, Y + 2)) := by unfold Hid; rw [HS2.out, if_pos h78]
     subst h78; clear hq HS2; go_upto_region 14 with fail; obtain ⟨w2, hw2⟩ : ∃ Z, wo.setCell ⟨w.heap.size, 1, none⟩ (.int .i64 (Y + 2)) = Z := ⟨_, rfl⟩
     have hK2 := hK.set_ 1 (.int .i64 (Y + 2))
     have hO2 := hO.set (p := ⟨w.heap.size, 1, none⟩) (fun e => by have := (hO.lt _ e).1; simp only at this; omega) (.int .i64 (Y + 2))
     have hb2 : Below w.heap.size w (wo.setCell ⟨w.heap.size, 1, none⟩ (.int .i64 (Y + 2))) := Z07 hbw (Nat.le_refl _) _
     have hz2 : wo.heap.size ≤ (wo.setCell ⟨w.heap.size, 1, none⟩ (.int .i64 (Y + 2))).heap.size := by simp [World.setCell]
     rw [hw2] at hK2 hO2 hb2 hz2 ⊢; have hK2 : Blk w2 w.heap.size 90 #[.int .i64 X, .int .i64 (Y + 2)] := hK2
     have fK2 := hK2.facts
     clear hw2; have hal : Below w2.heap.size w2 (w2.alloc (.cells #[.int .i64 X, .int .i64 (Y + 2)] 90)) := Z04 Z03 _
     have hu := Sl.oneG (enc := kc) (sz := 2) w2 90 (X, (Y + 2)) _ rfl
     have hK3 := hK2.alloc (.cells #[.int .i64 X, .int .i64 (Y + 2)] 90)
     go_wp2_with (at_builtin; refine Z3y rfl Z3w Z21 Z40 _ _ rfl (w.heap.size + 1) _ _ _ [(X, (Y + 2))] rfl rfl (hO2.alloc _) hu (by simp [maxLen]; omega) (by simp; omega) (Nat.le_trans (show w.heap.size + 1 ≤ w2.heap.size by omega) hal.size) ?_; intro v3 w3 hu3 hgr3)
     have hb3 : Below w.heap.size w w3 := Z09 hgr3 (Z08 hal hb2) (fun j e => by have := (hO2.lt j e).1; omega)
     have hK4 := hK3.grown hgr3 (fun e => by have := (hO2.lt _ e.symm).1; omega)
     have hz3 := hgr3.size
     have hz4 := hal.size
     go_wp2; go_roundw; case rel => exact ⟨k + 1, by omega, by go_num, by rw [HT.out, HR.out]; exact hu3, by rw [HR.out]; exact hK4, hb3, by omega⟩
     case measure => simp [intOf]; omega
    ·by_cases h66 : n = 66
     ·have HR : Hid (posK right (x, y) (l.take (k + 1)) = (X + 1, Y + 1)) := by unfold Hid; rw [HS2.out, if_neg h78, if_pos h66, if_pos hq]
      subst h66; clear hq HS2; go_upto_region 14 with (refine Z4n hK rfl _ _ _ rfl rfl rfl (by rfl) (by kernel_rfl) (by kernel_rfl) ?_; intro w2 hK2 hc2; have fK2 := hK2.facts)
      have hO2 := hO.chg hc2 (by simp <;> omega)
      have hb2 := Z9f hbw hc2 (Nat.le_refl _)
      have hz2 := hc2.size
      have hal : Below w2.heap.size w2 (w2.alloc (.cells #[.int .i64 (X + 1), .int .i64 (Y + 1)] 90)) := Z04 Z03 _
      have hu := Sl.oneG (enc := kc) (sz := 2) w2 90 ((X + 1), (Y + 1)) _ rfl
      have hK3 := hK2.alloc (.cells #[.int .i64 (X + 1), .int .i64 (Y + 1)] 90)
      go_wp2_with (at_builtin; refine Z3y rfl Z3w Z21 Z40 _ _ rfl (w.heap.size + 1) _ _ _ [((X + 1), (Y + 1))] rfl rfl (hO2.alloc _) hu (by simp [maxLen]; omega) (by simp; omega) (Nat.le_trans (show w.heap.size + 1 ≤ w2.heap.size by omega) hal.size) ?_; intro v3 w3 hu3 hgr3)
      have hb3 : Below w.heap.size w w3 := Z09 hgr3 (Z08 hal hb2) (fun j e => by have := (hO2.lt j e).1; omega)
      have hK4 := hK3.grown hgr3 (fun e => by have := (hO2.lt _ e.symm).1; omega)
      have hz3 := hgr3.size
      have hz4 := hal.size
      go_wp2; go_roundw; case rel => exact ⟨k + 1, by omega, by go_num, by rw [HT.out, HR.out]; exact hu3, by rw [HR.out]; exact hK4, hb3, by omega⟩
      case measure => simp [intOf]; omega
     ·have HR : Hid (posK right (x, y) (l.take (k + 1)) = (X + 2, Y)) := by unfold Hid; rw [HS2.out, if_neg h78, if_neg h66, if_pos hq]; rfl
      have t78 : ((n : Int) == 78) = false := beq_false_of_ne (by omega)
      have t66 : ((n : Int) == 66) = false := beq_false_of_ne (by omega)
      clear h78 h66; clear hq HS2; go_upto_region 14 with fail; obtain ⟨w2, hw2⟩ : ∃ Z, wo.setCell ⟨w.heap.size, 0, none⟩ (.int .i64 (X + 2)) = Z := ⟨_, rfl⟩
      have hK2 := hK.set_ 0 (.int .i64 (X + 2))
      have hO2 := hO.set (p := ⟨w.heap.size, 0, none⟩) (fun e => by have := (hO.lt _ e).1; simp only at this; omega) (.int .i64 (X + 2))
      have hb2 : Below w.heap.size w (wo.setCell ⟨w.heap.size, 0, none⟩ (.int .i64 (X + 2))) := Z07 hbw (Nat.le_refl _) _
      have hz2 : wo.heap.size ≤ (wo.setCell ⟨w.heap.size, 0, none⟩ (.int .i64 (X + 2))).heap.size := by simp [World.setCell]
      rw [hw2] at hK2 hO2 hb2 hz2 ⊢; have hK2 : Blk w2 w.heap.size 90 #[.int .i64 (X + 2), .int .i64 Y] := hK2
      have fK2 := hK2.facts
      clear hw2; have hal : Below w2.heap.size w2 (w2.alloc (.cells #[.int .i64 (X + 2), .int .i64 Y] 90)) := Z04 Z03 _
      have hu := Sl.oneG (enc := kc) (sz := 2) w2 90 ((X + 2), Y) _ rfl
      have hK3 := hK2.alloc (.cells #[.int .i64 (X + 2), .int .i64 Y] 90)
      go_wp2_with (at_builtin; refine Z3y rfl Z3w Z21 Z40 _ _ rfl (w.heap.size + 1) _ _ _ [((X + 2), Y)] rfl rfl (hO2.alloc _) hu (by simp [maxLen]; omega) (by simp; omega) (Nat.le_trans (show w.heap.size + 1 ≤ w2.heap.size by omega) hal.size) ?_; intro v3 w3 hu3 hgr3)
      have hb3 : Below w.heap.size w w3 := Z09 hgr3 (Z08 hal hb2) (fun j e => by have := (hO2.lt j e).1; omega)
      have hK4 := hK3.grown hgr3 (fun e => by have := (hO2.lt _ e.symm).1; omega)
      have hz3 := hgr3.size
      have hz4 := hal.size
      go_wp2; go_roundw; case rel => exact ⟨k + 1, by omega, by go_num, by rw [HT.out, HR.out]; exact hu3, by rw [HR.out]; exact hK4, hb3, by omega⟩
      case measure => simp [intOf]; omega
   ·have tq : (!(q == right)) = true := by simpa using hq
    by_cases h78 : n = 78
    ·have HR : Hid (posK right (x, y) (l.take (k + 1)) = (X, Y + 2)) := by unfold Hid; rw [HS2.out, if_pos h78]
     subst h78; clear hq HS2; go_upto_region 14 with fail; obtain ⟨w2, hw2⟩ : ∃ Z, wo.setCell ⟨w.heap.size, 1, none⟩ (.int .i64 (Y + 2)) = Z := ⟨_, rfl⟩
     have hK2 := hK.set_ 1 (.int .i64 (Y + 2))
     have hO2 := hO.set (p := ⟨w.heap.size, 1, none⟩) (fun e => by have := (hO.lt _ e).1; simp only at this; omega) (.int .i64 (Y + 2))
     have hb2 : Below w.heap.size w (wo.setCell ⟨w.heap.size, 1, none⟩ (.int .i64 (Y + 2))) := Z07 hbw (Nat.le_refl _) _
     have hz2 : wo.heap.size ≤ (wo.setCell ⟨w.heap.size, 1, none⟩ (.int .i64 (Y + 2))).heap.size := by simp [World.setCell]
     rw [hw2] at hK2 hO2 hb2 hz2 ⊢; have hK2 : Blk w2 w.heap.size 90 #[.int .i64 X, .int .i64 (Y + 2)] := hK2
     have fK2 := hK2.facts
     clear hw2; have hal : Below w2.heap.size w2 (w2.alloc (.cells #[.int .i64 X, .int .i64 (Y + 2)] 90)) := Z04 Z03 _
     have hu := Sl.oneG (enc := kc) (sz := 2) w2 90 (X, (Y + 2)) _ rfl
     have hK3 := hK2.alloc (.cells #[.int .i64 X, .int .i64 (Y + 2)] 90)
     go_wp2_with (at_builtin; refine Z3y rfl Z3w Z21 Z40 _ _ rfl (w.heap.size + 1) _ _ _ [(X, (Y + 2))] rfl rfl (hO2.alloc _) hu (by simp [maxLen]; omega) (by simp; omega) (Nat.le_trans (show w.heap.size + 1 ≤ w2.heap.size by omega) hal.size) ?_; intro v3 w3 hu3 hgr3)
     have hb3 : Below w.heap.size w w3 := Z09 hgr3 (Z08 hal hb2) (fun j e => by have := (hO2.lt j e).1; omega)
     have hK4 := hK3.grown hgr3 (fun e => by have := (hO2.lt _ e.symm).1; omega)
     have hz3 := hgr3.size
     have hz4 := hal.size
     go_wp2; go_roundw; case rel => exact ⟨k + 1, by omega, by go_num, by rw [HT.out, HR.out]; exact hu3, by rw [HR.out]; exact hK4, hb3, by omega⟩
     case measure => simp [intOf]; omega
    ·by_cases h66 : n = 66
     ·have HR : Hid (posK right (x, y) (l.take (k + 1)) = (X + (-1), Y + 1)) := by unfold Hid; rw [HS2.out, if_neg h78, if_pos h66, if_neg hq]
      subst h66; clear hq HS2; go_upto_region 14 with (refine Z4n hK rfl _ _ _ rfl rfl rfl (by rfl) (by kernel_rfl) (by kernel_rfl) ?_; intro w2 hK2 hc2; have fK2 := hK2.facts)
      have hO2 := hO.chg hc2 (by simp <;> omega)
      have hb2 := Z9f hbw hc2 (Nat.le_refl _)
      have hz2 := hc2.size
      have hal : Below w2.heap.size w2 (w2.alloc (.cells #[.int .i64 (X + (-1)), .int .i64 (Y + 1)] 90)) := Z04 Z03 _
      have hu := Sl.oneG (enc := kc) (sz := 2) w2 90 ((X + (-1)), (Y + 1)) _ rfl
      have hK3 := hK2.alloc (.cells #[.int .i64 (X + (-1)), .int .i64 (Y + 1)] 90)
      go_wp2_with (at_builtin; refine Z3y rfl Z3w Z21 Z40 _ _ rfl (w.heap.size + 1) _ _ _ [((X + (-1)), (Y + 1))] rfl rfl (hO2.alloc _) hu (by simp [maxLen]; omega) (by simp; omega) (Nat.le_trans (show w.heap.size + 1 ≤ w2.heap.size by omega) hal.size) ?_; intro v3 w3 hu3 hgr3)
      have hb3 : Below w.heap.size w w3 := Z09 hgr3 (Z08 hal hb2) (fun j e => by have := (hO2.lt j e).1; omega)
      have hK4 := hK3.grown hgr3 (fun e => by have := (hO2.lt _ e.symm).1; omega)
      have hz3 := hgr3.size
      have hz4 := hal.size
      go_wp2; go_roundw; case rel => exact ⟨k + 1, by omega, by go_num, by rw [HT.out, HR.out]; exact hu3, by rw [HR.out]; exact hK4, hb3, by omega⟩
      case measure => simp [intOf]; omega
     ·have HR : Hid (posK right (x, y) (l.take (k + 1)) = (X + (-2), Y)) := by unfold Hid; rw [HS2.out, if_neg h78, if_neg h66, if_neg hq]; rfl
      have t78 : ((n : Int) == 78) = false := beq_false_of_ne (by omega)
      have t66 : ((n : Int) == 66) = false := beq_false_of_ne (by omega)
      clear h78 h66; clear hq HS2; go_upto_region 14 with fail; obtain ⟨w2, hw2⟩ : ∃ Z, wo.setCell ⟨w.heap.size, 0, none⟩ (.int .i64 (X + (-2))) = Z := ⟨_, rfl⟩
      have hK2 := hK.set_ 0 (.int .i64 (X + (-2)))
      have hO2 := hO.set (p := ⟨w.heap.size, 0, none⟩) (fun e => by have := (hO.lt _ e).1; simp only at this; omega) (.int .i64 (X + (-2)))
      have hb2 : Below w.heap.size w (wo.setCell ⟨w.heap.size, 0, none⟩ (.int .i64 (X + (-2)))) := Z07 hbw (Nat.le_refl _) _
      have hz2 : wo.heap.size ≤ (wo.setCell ⟨w.heap.size, 0, none⟩ (.int .i64 (X + (-2)))).heap.size := by simp [World.setCell]
      rw [hw2] at hK2 hO2 hb2 hz2 ⊢; have hK2 : Blk w2 w.heap.size 90 #[.int .i64 (X + (-2)), .int .i64 Y] := hK2
      have fK2 := hK2.facts
      clear hw2; have hal : Below w2.heap.size w2 (w2.alloc (.cells #[.int .i64 (X + (-2)), .int .i64 Y] 90)) := Z04 Z03 _
      have hu := Sl.oneG (enc := kc) (sz := 2) w2 90 ((X + (-2)), Y) _ rfl
      have hK3 := hK2.alloc (.cells #[.int .i64 (X + (-2)), .int .i64 Y] 90)
      go_wp2_with (at_builtin; refine Z3y rfl Z3w Z21 Z40 _ _ rfl (w.heap.size + 1) _ _ _ [((X + (-2)), Y)] rfl rfl (hO2.alloc _) hu (by simp [maxLen]; omega) (by simp; omega) (Nat.le_trans (show w.heap.size + 1 ≤ w2.heap.size by omega) hal.size) ?_; intro v3 w3 hu3 hgr3)
      have hb3 : Below w.heap.size w w3 := Z09 hgr3 (Z08 hal hb2) (fun j e => by have := (hO2.lt j e).1; omega)
      have hK4 := hK3.grown hgr3 (fun e => by have := (hO2.lt _ e.symm).1; omega)
      have hz3 := hgr3.size
      have hz4 := hal.size
      go_wp2; go_roundw; case rel => exact ⟨k + 1, by omega, by go_num, by rw [HT.out, HR.out]; exact hu3, by rw [HR.out]; exact hK4, hb3, by omega⟩
      case measure => simp [intOf]; omega
  ·obtain rfl : k = l.length := by omega
   have HT : Hid ((outK right (x, y) l).take (l.length + 1) = outK right (x, y) l) := by unfold Hid; rw [List.take_of_length_le (by rw [Z2p]; exact Nat.le_refl _)]
   rw [HT.out] at hO; go_wp2; go_ret; exact ⟨_, rfl, hO.base_mono (by omega), hbw⟩
theorem Zcq {vL vR : Value} (p : Pan) (right : Bool) (w : World) (hL : SlE w vL p.2.2.1) (hR : SlE w vR p.2.2.2) (hl : Z3b p.2.2.1) (hr : Z3b p.2.2.2) (hwd : 0 ≤ p.2.1 ∧ p.2.1 ≤ 128) :
  Calls Tryz.prog 138 #[.agg #[sV p.1, .int .i64 p.2.1, vL, vR], .bool right] w (RG kc 2 90 w (outP p right)) := by
 obtain ⟨nm, wd, L, R⟩ := p
 simp only at hL hR hl hr hwd ⊢
 have hZ := Blk.new w 86 #[sV nm, .int .i64 wd, vL, vR]
 obtain ⟨AL, cL, rfl, hLc, hLm, rL⟩ := hL
 obtain ⟨AR, cR, rfl, hRc, hRm, rR⟩ := hR
 have hSL := fun W (hb : Below w.heap.size w W) => Zcl (v := .slice AL L.length cL) L W ⟨AL, cL, rfl, hLc, hLm, rL.below hb⟩ hl
 have hSR := fun W (hb : Below w.heap.size w W) => Zcl (v := .slice AR R.length cR) R W ⟨AR, cR, rfl, hRc, hRm, rR.below hb⟩ hr
 have hll := hl.len
 have hlr := hr.len
 unfold sV at hZ ⊢
 have fZ := hZ.facts
 cases right
 ·have HO : Hid (outP (nm, wd, L, R) false = outK false (0, 0) (stpL L)) := rfl
  obtain ⟨O, hO⟩ : ∃ O, outP (nm, wd, L, R) false = O := ⟨_, rfl⟩
  rw [hO] at HO ⊢; clear hO; go_enter Tryz.func138, Tryz.ntmps138
  go_wp2_with (first | (go_at_call 98; refine (hSL _ (by (repeat first|exact J0|assumption|(apply J1;assumption)|apply J2|apply J3|apply J4))).mono ?_; rintro e w2 ⟨v2, rfl, hO2, hb2⟩) | (go_at_call 194; refine (Zcp 0 0 (stpL L) false _ (hO2.rd Z8j) (by omega) (by omega) (by omega)).mono ?_; rintro e w3 ⟨v3, rfl, hO3, hb3⟩))
  go_ret; exact ⟨_, rfl, by rw [HO.out]; exact hO3.base_mono (by have := (show Below w.heap.size w w2 by (repeat first|exact J0|assumption|(apply J1;assumption)|apply J2|apply J3|apply J4)).size; omega), by (repeat first|exact J0|assumption|(apply J1;assumption)|apply J2|apply J3|apply J4)⟩
 ·have HO : Hid (outP (nm, wd, L, R) true = outK true (2 * wd, 0) (stpL R)) := rfl
  obtain ⟨O, hO⟩ : ∃ O, outP (nm, wd, L, R) true = O := ⟨_, rfl⟩
  rw [hO] at HO ⊢; clear hO; have hw1 := hwd.1
  have hw2 := hwd.2
  go_enter Tryz.func138, Tryz.ntmps138
  go_upto_region 2 with fail; refine Z0z [0, 1, 2, 3, 4, 5] [(6, false)] [7, 8] (by kernel_rfl) (by kernel_rfl) (fun d _ _ _ _ h => by cases d <;> exact h) ?_
  simp only [List.map_cons, List.map_nil, List.getD_cons_zero, List.getD_cons_succ]; repeat (go_big_quiet_step (fail))
  refine wpQuiet_nil ?_; refine Z11 rfl (fun K hK => ?_); go_simp; refine (hSR _ (by (repeat first|exact J0|assumption|(apply J1;assumption)|apply J2|apply J3|apply J4))).mono ?_
  rintro e w2 ⟨v2, rfl, hO2, hb2⟩; refine hK _ _ (by (repeat first|exact J0|assumption|(apply J1;assumption)|apply J2|apply J3|apply J4)) ?_
  clear hK K; have hZ_w2 := hZ.below (show Below _ _ w2 by (repeat first|exact J0|assumption|(apply J1;assumption)|apply J2|apply J3|apply J4))
  have fhZ_w2 := hZ_w2.facts
  refine Z10 ?_; go_wp2_with (go_at_call 194; refine (Zcp (2 * wd) 0 (stpL R) true _ (hO2.rd Z8j) (by omega) (by omega) (by omega)).mono ?_; rintro e w3 ⟨v3, rfl, hO3, hb3⟩)
  go_ret; exact ⟨_, rfl, by rw [HO.out]; exact hO3.base_mono (by have := (show Below w.heap.size w w2 by (repeat first|exact J0|assumption|(apply J1;assumption)|apply J2|apply J3|apply J4)).size; omega), by (repeat first|exact J0|assumption|(apply J1;assumption)|apply J2|apply J3|apply J4)⟩
theorem Zcr {vL vR : Value} (p : Pan) (w : World) (hL : SlE w vL p.2.2.1) (hl : Z3b p.2.2.1) :
  Calls Tryz.prog 44 #[.agg #[sV p.1, .int .i64 p.2.1, vL, vR]] w (RV w (.int .i64 (Z35 p))) := by
 obtain ⟨nm, wd, L, R⟩ := p
 simp only at hL hl ⊢
 have hZ := (Blk.new w 86 #[sV nm, .int .i64 wd, vL, vR]).facts
 have hSL := fun W (hb : Below w.heap.size w W) => Zcl (v := vL) L W (hL.below hb) hl
 have hll := hl.len
 have HH : Hid (Z35 (nm, wd, L, R) = Z2w (stpL L)) := rfl
 obtain ⟨O, hO⟩ : ∃ O, Z35 (nm, wd, L, R) = O := ⟨_, rfl⟩
 rw [hO] at HH ⊢
 unfold sV at hZ ⊢
 clear hO
 go_enter Tryz.func44, Tryz.ntmps44
 go_wp2_with (first | (go_at_call 98; refine (hSL _ (by (repeat first|exact J0|assumption|(apply J1;assumption)|apply J2|apply J3|apply J4))).mono ?_; rintro e w2 ⟨v2, rfl, hO2, hb2⟩) | (go_at_call 97; refine (Zcj (stpL L) _ (hO2.rd Z8j) (by omega)).mono ?_; rintro e w3 ⟨rfl, hb3⟩))
 go_ret
 exact ⟨by rw [HH.out]; rfl, by (repeat first|exact J0|assumption|(apply J1;assumption)|apply J2|apply J3|apply J4)⟩
end Go.Proofs.YtpcgeihemkhkjaaGreatDoor

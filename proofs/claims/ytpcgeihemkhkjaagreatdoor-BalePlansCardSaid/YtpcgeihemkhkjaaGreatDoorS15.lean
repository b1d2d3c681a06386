/- Short panels, walked. Conditions: none. -/
import Derived.Test.YtpcgeihemkhkjaaGreatDoorS14
import Derived.Test.YtpcgeihemkhkjaaGreatDoorS09
import Derived.Test.YtpcgeihemkhkjaaGreatDoorS11
import Derived.Test.YtpcgeihemkhkjaaGreatDoorS07
import Derived.Laws.OwnMore
import Derived.Deep.OwnRows
namespace Go.Proofs.YtpcgeihemkhkjaaGreatDoor
open Go.RowKit Go.ChangeMaps
set_option maxHeartbeats 4000000
set_option maxRecDepth 100000
attribute [local go_sem] Oper.semAt_some
def Zdk (e : Edg) : Int := if 0 < e.2.1 ∧ e.2.1 ≤ 64 then (e.1.length : Int) * e.2.1 else 0
def Zdl (l : List Edg) : Int := (l.map Zdk).sum
def Zdm (l : List Edg) (n : Int) : Bool := (!(decide (3 < l.length) && decide (l.length ≤ 64)) && !decide (66 < l.length)) && ((l.all fun e => decide (e.1.length ≤ 66)) && (decide (Zdl l ≤ n) || decide (64 < l.length)))
theorem Zdn {l : List Edg} {k : Nat} (hk : k < l.length) : Zdl (l.take (k + 1)) = Zdl (l.take k) + (if 0 < l[k].2.1 ∧ l[k].2.1 ≤ 64 then (l[k].1.length : Int) * l[k].2.1 else 0) := by
 unfold Zdl
 rw [List.take_succ_eq_append_getElem hk, List.map_append, List.sum_append]
 simp [Zdk]
theorem Zdo {l : List Edg} {k : Nat} (hk : k < l.length) (h : (l.take k).all (fun e => decide (e.1.length ≤ 66)) = true) (h2 : l[k].1.length ≤ 66) : (l.take (k + 1)).all (fun e => decide (e.1.length ≤ 66)) = true := by
 rw [List.take_succ_eq_append_getElem hk, List.all_append, h]
 simp [h2]
theorem Zdp {l : List Edg} {k : Nat} (hk : k < l.length) (h : 66 < l[k].1.length) : l.all (fun e => decide (e.1.length ≤ 66)) = false := by
 rw [List.all_eq_false]
 exact ⟨l[k], List.getElem_mem hk, by simp; omega⟩
theorem Zdq {v : Value} (l : List Edg) (n : Int) (w : World) (h : SlE w v l) : Calls Tryz.prog 190 #[v, .int .i64 n] w (RV w (.bool (Zdm l n))) := by
 obtain ⟨A, c, rfl, hlc, hcm, hr⟩ := h
 have hl : l.length ≤ maxLen := Nat.le_trans hlc hcm
 unfold maxLen at hl
 have HQ : Hid (l.all (fun e => decide (e.1.length ≤ 66)) = false → Zdm l n = false) := fun h => by unfold Zdm; rw [h]; simp
 by_cases h3 : l.length ≤ 3
 ·have hA1 : (!(decide (3 < l.length) && decide (l.length ≤ 64)) && !decide (66 < l.length)) = true := by simp; omega
  have t1 : (3 < (l.length : Int)) = False := eq_false (by omega)
  have t2 : (66 < (l.length : Int)) = False := eq_false (by omega)
  go_enter Tryz.func190, Tryz.ntmps190
  go_upto_region 3 with fail; go_wp2; go_loopw [5, 6] (fun n i wr => ∃ (k : Nat) (m : Int), k ≤ l.length ∧ i = .int .i64 k ∧ n = .int .i64 m ∧ (0 ≤ m ∧ m ≤ 5000 * (k : Int)) ∧ Hid (Zdl (l.take k) = m ∧ (l.take k).all (fun e => decide (e.1.length ≤ 66)) = true) ∧ Below w.heap.size w wr) (fun _ i _ => l.length - (intOf i).toNat)
  case atStart => exact ⟨0, 0, Nat.zero_le _, rfl, rfl, by omega, ⟨rfl, rfl⟩, by (repeat first|exact J0|assumption|(apply J1;assumption)|apply J2|apply J3|apply J4)⟩
  case round =>
   obtain ⟨k, m, hk, rfl, rfl, hm, H, hbw⟩ := hrel; obtain ⟨wo, rfl⟩ : ∃ x, x = wr := ⟨_, rfl⟩
   by_cases hlt : k < l.length
   ·obtain ⟨b, off, rfl, hb, e0, e1, e2⟩ := (hr.below hbw).edge hlt
    have HD := Lib.hid (Zdn hlt)
    have HA := Lib.hid (Zdo hlt)
    have HI := Lib.hid (Zdp hlt)
    obtain ⟨⟨s, t, o⟩, hx⟩ : ∃ z, l[k] = z := ⟨_, rfl⟩
    rw [hx] at e0 e1 e2 HD HA HI; simp only at e0 e1 e2
    clear hx; by_cases h66 : 66 < s.length
    ·have HT : Hid (Zdm l n = false) := HQ.out (HI.out h66)
     have s1 : (66 < (s.length : Int)) = True := eq_true (by omega)
     go_wp2; go_ret; exact ⟨by rw [HT.out]; rfl, hbw⟩
    ·have s1 : (66 < (s.length : Int)) = False := eq_false (by omega)
     have hs66 : s.length ≤ 66 := by omega
     have HA2 : Hid ((l.take (k + 1)).all (fun e => decide (e.1.length ≤ 66)) = true) := HA.out H.out.2 hs66
     have HD2 : Hid (Zdl (l.take (k + 1)) = m + (if 0 < t ∧ t ≤ 64 then (s.length : Int) * t else 0)) := by unfold Hid; rw [HD.out, H.out.1]
     clear h66 HD HA HI; by_cases ht : 0 < t
     ·have s2 : (0 < t) = True := eq_true ht
      by_cases ht2 : t ≤ 64
      ·have s3 : (t ≤ 64) = True := eq_true ht2
       have hmul : 0 ≤ (s.length : Int) * t ∧ (s.length : Int) * t ≤ 66 * 64 := by
        obtain ⟨tn, rfl⟩ : ∃ tn : Nat, t = tn := ⟨t.toNat, by omega⟩
        have := Nat.mul_le_mul hs66 (show tn ≤ 64 by omega)
        exact ⟨Int.mul_nonneg (by omega) (by omega), by exact_mod_cast this⟩
       have HD3 : Hid (Zdl (l.take (k + 1)) = m + (s.length : Int) * t) := by unfold Hid; rw [HD2.out, if_pos ⟨ht, ht2⟩]
       obtain ⟨P, hP⟩ : ∃ P, (s.length : Int) * t = P := ⟨_, rfl⟩
       have hsz : (({ data := s.toArray } : ByteArray)).size = s.length := rfl
       rw [hP] at hmul HD3; clear HD2; go_upto_region 10 with fail; refine Z0z [0, 1, 2, 3, 4, 5, 6, 7, 8, 9, 10, 11, 12, 13, 14] [] [] (by kernel_rfl) (by kernel_rfl) (fun d _ _ _ _ h => by cases d <;> exact h) ?_
       simp only [List.map_cons, List.map_nil, List.getD_cons_zero, List.getD_cons_succ]; repeat (go_big_quiet_step (fail))
       refine wpQuiet_nil ?_; refine Z10 ?_; go_wp2; go_roundw; case rel => exact ⟨k + 1, m + P, by omega, by go_num, rfl, by push_cast; omega, ⟨HD3.out, HA2.out⟩, by (repeat first|exact J0|assumption|(apply J1;assumption)|apply J2|apply J3|apply J4)⟩
       case measure => simp [intOf]; omega
      ·have s3 : (t ≤ 64) = False := eq_false ht2
       have HD3 : Hid (Zdl (l.take (k + 1)) = m) := by unfold Hid; rw [HD2.out, if_neg (fun h => ht2 h.2)]; omega
       clear HD2; go_wp2; go_roundw; case rel => exact ⟨k + 1, m, by omega, by go_num, rfl, by push_cast; omega, ⟨HD3.out, HA2.out⟩, hbw⟩
       case measure => simp [intOf]; omega
     ·have s2 : (0 < t) = False := eq_false ht
      have HD3 : Hid (Zdl (l.take (k + 1)) = m) := by unfold Hid; rw [HD2.out, if_neg (fun h => ht h.1)]; omega
      clear HD2; go_wp2; go_roundw; case rel => exact ⟨k + 1, m, by omega, by go_num, rfl, by push_cast; omega, ⟨HD3.out, HA2.out⟩, hbw⟩
      case measure => simp [intOf]; omega
   ·obtain rfl : k = l.length := by omega
    have HT := H.out
    rw [List.take_length] at HT
    have HS : Hid (Zdm l n = (decide (m ≤ n) || decide (64 < l.length))) := by
     unfold Hid Zdm; rw [HT.1, HT.2, hA1]; simp
    clear HT H; by_cases hmn : m ≤ n
    ·have HS2 : Hid (Zdm l n = true) := by unfold Hid; rw [HS.out, decide_eq_true hmn]; rfl
     have s4 : (m ≤ n) = True := eq_true hmn
     go_wp2; go_ret; exact ⟨by rw [HS2.out]; rfl, hbw⟩
    ·have HS2 : Hid (Zdm l n = decide (64 < l.length)) := by unfold Hid; rw [HS.out, decide_eq_false hmn]; rfl
     have s4 : (m ≤ n) = False := eq_false hmn
     go_wp2; go_ret; exact ⟨by rw [HS2.out]; simp; omega, hbw⟩
 ·have t1 : (3 < (l.length : Int)) = True := eq_true (by omega)
  by_cases h64 : l.length ≤ 64
  ·have HS : Hid (Zdm l n = false) := by unfold Hid Zdm; rw [decide_eq_true (show 3 < l.length by omega), decide_eq_true h64]; simp
   have t2 : ((l.length : Int) ≤ 64) = True := eq_true (by omega)
   go_enter Tryz.func190, Tryz.ntmps190
   go_wp2; go_ret; exact ⟨by rw [HS.out]; rfl, by (repeat first|exact J0|assumption|(apply J1;assumption)|apply J2|apply J3|apply J4)⟩
  ·have t2 : ((l.length : Int) ≤ 64) = False := eq_false (by omega)
   by_cases h66' : 66 < l.length
   ·have HS : Hid (Zdm l n = false) := by unfold Hid Zdm; rw [decide_eq_true h66']; simp
    have t3 : (66 < (l.length : Int)) = True := eq_true (by omega)
    go_enter Tryz.func190, Tryz.ntmps190
    go_wp2; go_ret; exact ⟨by rw [HS.out]; rfl, by (repeat first|exact J0|assumption|(apply J1;assumption)|apply J2|apply J3|apply J4)⟩
   ·have hA1 : (!(decide (3 < l.length) && decide (l.length ≤ 64)) && !decide (66 < l.length)) = true := by simp; omega
    have t3 : (66 < (l.length : Int)) = False := eq_false (by omega)
    go_enter Tryz.func190, Tryz.ntmps190
    go_upto_region 3 with fail; go_wp2; go_loopw [5, 6] (fun n i wr => ∃ (k : Nat) (m : Int), k ≤ l.length ∧ i = .int .i64 k ∧ n = .int .i64 m ∧ (0 ≤ m ∧ m ≤ 5000 * (k : Int)) ∧ Hid (Zdl (l.take k) = m ∧ (l.take k).all (fun e => decide (e.1.length ≤ 66)) = true) ∧ Below w.heap.size w wr) (fun _ i _ => l.length - (intOf i).toNat)
    case atStart => exact ⟨0, 0, Nat.zero_le _, rfl, rfl, by omega, ⟨rfl, rfl⟩, by (repeat first|exact J0|assumption|(apply J1;assumption)|apply J2|apply J3|apply J4)⟩
    case round =>
     obtain ⟨k, m, hk, rfl, rfl, hm, H, hbw⟩ := hrel; obtain ⟨wo, rfl⟩ : ∃ x, x = wr := ⟨_, rfl⟩
     by_cases hlt : k < l.length
     ·obtain ⟨b, off, rfl, hb, e0, e1, e2⟩ := (hr.below hbw).edge hlt
      have HD := Lib.hid (Zdn hlt)
      have HA := Lib.hid (Zdo hlt)
      have HI := Lib.hid (Zdp hlt)
      obtain ⟨⟨s, t, o⟩, hx⟩ : ∃ z, l[k] = z := ⟨_, rfl⟩
      rw [hx] at e0 e1 e2 HD HA HI; simp only at e0 e1 e2
      clear hx; by_cases h66 : 66 < s.length
      ·have HT : Hid (Zdm l n = false) := HQ.out (HI.out h66)
       have s1 : (66 < (s.length : Int)) = True := eq_true (by omega)
       go_wp2; go_ret; exact ⟨by rw [HT.out]; rfl, hbw⟩
      ·have s1 : (66 < (s.length : Int)) = False := eq_false (by omega)
       have hs66 : s.length ≤ 66 := by omega
       have HA2 : Hid ((l.take (k + 1)).all (fun e => decide (e.1.length ≤ 66)) = true) := HA.out H.out.2 hs66
       have HD2 : Hid (Zdl (l.take (k + 1)) = m + (if 0 < t ∧ t ≤ 64 then (s.length : Int) * t else 0)) := by unfold Hid; rw [HD.out, H.out.1]
       clear h66 HD HA HI; by_cases ht : 0 < t
       ·have s2 : (0 < t) = True := eq_true ht
        by_cases ht2 : t ≤ 64
        ·have s3 : (t ≤ 64) = True := eq_true ht2
         have hmul : 0 ≤ (s.length : Int) * t ∧ (s.length : Int) * t ≤ 66 * 64 := by
          obtain ⟨tn, rfl⟩ : ∃ tn : Nat, t = tn := ⟨t.toNat, by omega⟩
          have := Nat.mul_le_mul hs66 (show tn ≤ 64 by omega)
          exact ⟨Int.mul_nonneg (by omega) (by omega), by exact_mod_cast this⟩
         have HD3 : Hid (Zdl (l.take (k + 1)) = m + (s.length : Int) * t) := by unfold Hid; rw [HD2.out, if_pos ⟨ht, ht2⟩]
         obtain ⟨P, hP⟩ : ∃ P, (s.length : Int) * t = P := ⟨_, rfl⟩
         have hsz : (({ data := s.toArray } : ByteArray)).size = s.length := rfl
         rw [hP] at hmul HD3; clear HD2; go_upto_region 10 with fail; refine Z0z [0, 1, 2, 3, 4, 5, 6, 7, 8, 9, 10, 11, 12, 13, 14] [] [] (by kernel_rfl) (by kernel_rfl) (fun d _ _ _ _ h => by cases d <;> exact h) ?_
         simp only [List.map_cons, List.map_nil, List.getD_cons_zero, List.getD_cons_succ]; repeat (go_big_quiet_step (fail))
         refine wpQuiet_nil ?_; refine Z10 ?_; go_wp2; go_roundw; case rel => exact ⟨k + 1, m + P, by omega, by go_num, rfl, by push_cast; omega, ⟨HD3.out, HA2.out⟩, by (repeat first|exact J0|assumption|(apply J1;assumption)|apply J2|apply J3|apply J4)⟩
         case measure => simp [intOf]; omega
        ·have s3 : (t ≤ 64) = False := eq_false ht2
         have HD3 : Hid (Zdl (l.take (k + 1)) = m) := by unfold Hid; rw [HD2.out, if_neg (fun h => ht2 h.2)]; omega
         clear HD2; go_wp2; go_roundw; case rel => exact ⟨k + 1, m, by omega, by go_num, rfl, by push_cast; omega, ⟨HD3.out, HA2.out⟩, hbw⟩
         case measure => simp [intOf]; omega
       ·have s2 : (0 < t) = False := eq_false ht
        have HD3 : Hid (Zdl (l.take (k + 1)) = m) := by unfold Hid; rw [HD2.out, if_neg (fun h => ht h.1)]; omega
        clear HD2; go_wp2; go_roundw; case rel => exact ⟨k + 1, m, by omega, by go_num, rfl, by push_cast; omega, ⟨HD3.out, HA2.out⟩, hbw⟩
        case measure => simp [intOf]; omega
     ·obtain rfl : k = l.length := by omega
      have HT := H.out
      rw [List.take_length] at HT
      have HS : Hid (Zdm l n = (decide (m ≤ n) || decide (64 < l.length))) := by
       unfold Hid Zdm; rw [HT.1, HT.2, hA1]; simp
      clear HT H; by_cases hmn : m ≤ n
      ·have HS2 : Hid (Zdm l n = true) := by unfold Hid; rw [HS.out, decide_eq_true hmn]; rfl
       have s4 : (m ≤ n) = True := eq_true hmn
       go_wp2; go_ret; exact ⟨by rw [HS2.out]; rfl, hbw⟩
      ·have HS2 : Hid (Zdm l n = decide (64 < l.length)) := by unfold Hid; rw [HS.out, decide_eq_false hmn]; rfl
       have s4 : (m ≤ n) = False := eq_false hmn
       go_wp2; go_ret; exact ⟨by rw [HS2.out]; simp; omega, hbw⟩
def Zdr (p : Pan) (n : Int) : Bool := decide (p.1.length ≤ 60) && ((decide (p.2.1 ≤ 8) || decide (128 < p.2.1)) && (Zdm p.2.2.1 n && Zdm p.2.2.2 n))
theorem Zds {l : List Edg} {n : Int} (h : Zdm l n = true) : l.length ≤ 66 ∧ ∀ e ∈ l, e.1.length ≤ 66 := by
 unfold Zdm at h
 simp only [Bool.and_eq_true, List.all_eq_true, decide_eq_true_eq, Bool.not_eq_true', decide_eq_false_iff_not] at h
 exact ⟨by omega, fun e he => h.2.1 e he⟩
theorem shortP_words {p : Pan} {n : Int} (h : Zdr p n = true) : p.1.length ≤ 60 ∧ (p.2.2.1.length ≤ 66 ∧ ∀ e ∈ p.2.2.1, e.1.length ≤ 66) ∧ p.2.2.2.length ≤ 66 ∧ ∀ e ∈ p.2.2.2, e.1.length ≤ 66 := by
 unfold Zdr at h
 simp only [Bool.and_eq_true, decide_eq_true_eq] at h
 exact ⟨h.1, Zds h.2.2.1, Zds h.2.2.2⟩
theorem Zdt {vL vR : Value} (p : Pan) (n : Int) (w : World) (hnm : p.1.length ≤ maxLen) (hL : SlE w vL p.2.2.1) (hR : SlE w vR p.2.2.2) :
    Calls Tryz.prog 134 #[.agg #[sV p.1, .int .i64 p.2.1, vL, vR], .int .i64 n] w (RV w (.bool (Zdr p n))) := by
  have hcL := fun W (hb : Below w.heap.size w W) => Zdq p.2.2.1 n W (hL.below hb)
  have hcR := fun W (hb : Below w.heap.size w W) => Zdq p.2.2.2 n W (hR.below hb)
  have HS : Hid (Zdr p n = (decide (p.1.length ≤ 60) && ((decide (p.2.1 ≤ 8) || decide (128 < p.2.1)) && (Zdm p.2.2.1 n && Zdm p.2.2.2 n)))) := rfl
  obtain ⟨E, hE⟩ : ∃ E, Zdr p n = E := ⟨_, rfl⟩
  obtain ⟨q1, hq1⟩ : ∃ E, Zdm p.2.2.1 n = E := ⟨_, rfl⟩
  obtain ⟨q2, hq2⟩ : ∃ E, Zdm p.2.2.2 n = E := ⟨_, rfl⟩
  rw [hE, hq1, hq2] at HS; rw [hq1] at hcL; rw [hq2] at hcR; rw [hE]; obtain ⟨nm, wd, L, R⟩ := p; simp only at hnm hL hR hcL hcR HS ⊢
  obtain ⟨AL, cL, rfl, _, _, _⟩ := hL; obtain ⟨AR, cR, rfl, _, _, _⟩ := hR; unfold sV; unfold maxLen at hnm; have hB := Blk.new w 86 #[.string ⟨nm.toArray⟩, .int .i64 wd, .slice AL L.length cL, .slice AR R.length cR]
  have fB := hB.facts
  clear hE hq1 hq2; by_cases h60 : nm.length ≤ 60
  · have t1 : ((nm.length : Int) ≤ 60) = True := eq_true (by omega)
    by_cases hw : wd ≤ 8 ∨ 128 < wd
    · have HS2 : Hid (E = (q1 && q2)) := by
        unfold Hid; rw [HS.out, decide_eq_true h60]; rcases hw with h | h
        · rw [decide_eq_true h]; simp
        · rw [decide_eq_true h]; simp
      clear HS; by_cases h8 : wd ≤ 8
      · have t2 : (wd ≤ 8) = True := eq_true h8
        clear hw h8 h60; go_enter Tryz.func134, Tryz.ntmps134
        go_wp2_with fail; refine (hcL _ (by (repeat first|exact J0|assumption|(apply J1;assumption)|apply J2|apply J3|apply J4))).mono ?_
        rintro e w2 ⟨rfl, hb2⟩; replace hB := hB.below (show Below _ _ w2 by (repeat first|exact J0|assumption|(apply J1;assumption)|apply J2|apply J3|apply J4))
        replace fhB := hB.facts
        cases q1
        · go_wp2
          go_ret; exact ⟨by rw [HS2.out]; rfl, by (repeat first|exact J0|assumption|(apply J1;assumption)|apply J2|apply J3|apply J4)⟩
        · go_wp2_with (go_at_call 190; refine (hcR _ (by (repeat first|exact J0|assumption|(apply J1;assumption)|apply J2|apply J3|apply J4))).mono ?_; rintro e w3 ⟨rfl, hb3⟩)
          go_ret; exact ⟨by rw [HS2.out]; rfl, by (repeat first|exact J0|assumption|(apply J1;assumption)|apply J2|apply J3|apply J4)⟩
      · have t2 : (wd ≤ 8) = False := eq_false h8
        have t3 : (128 < wd) = True := eq_true (by omega)
        clear hw h8 h60; go_enter Tryz.func134, Tryz.ntmps134
        go_wp2_with fail; refine (hcL _ (by (repeat first|exact J0|assumption|(apply J1;assumption)|apply J2|apply J3|apply J4))).mono ?_
        rintro e w2 ⟨rfl, hb2⟩; replace hB := hB.below (show Below _ _ w2 by (repeat first|exact J0|assumption|(apply J1;assumption)|apply J2|apply J3|apply J4))
        replace fhB := hB.facts
        cases q1
        · go_wp2
          go_ret; exact ⟨by rw [HS2.out]; rfl, by (repeat first|exact J0|assumption|(apply J1;assumption)|apply J2|apply J3|apply J4)⟩
        · go_wp2_with (go_at_call 190; refine (hcR _ (by (repeat first|exact J0|assumption|(apply J1;assumption)|apply J2|apply J3|apply J4))).mono ?_; rintro e w3 ⟨rfl, hb3⟩)
          go_ret; exact ⟨by rw [HS2.out]; rfl, by (repeat first|exact J0|assumption|(apply J1;assumption)|apply J2|apply J3|apply J4)⟩
    · have HS2 : Hid (E = false) := by unfold Hid; rw [HS.out, decide_eq_false (show ¬ wd ≤ 8 by omega), decide_eq_false (show ¬ 128 < wd by omega)]; simp
      have t2 : (wd ≤ 8) = False := eq_false (by omega)
      have t3 : (128 < wd) = False := eq_false (by omega)
      clear hw; go_enter Tryz.func134, Tryz.ntmps134
      go_wp2; go_ret; exact ⟨by rw [HS2.out]; rfl, by (repeat first|exact J0|assumption|(apply J1;assumption)|apply J2|apply J3|apply J4)⟩
  · have HS2 : Hid (E = false) := by unfold Hid; rw [HS.out, decide_eq_false h60]; rfl
    have t1 : ((nm.length : Int) ≤ 60) = False := eq_false (by omega)
    go_enter Tryz.func134, Tryz.ntmps134
    go_wp2; go_ret; exact ⟨by rw [HS2.out]; rfl, by (repeat first|exact J0|assumption|(apply J1;assumption)|apply J2|apply J3|apply J4)⟩
end Go.Proofs.YtpcgeihemkhkjaaGreatDoor
namespace Go.Proofs.YtpcgeihemkhkjaaGreatDoor
open Go.RowKit Go.ChangeMaps
set_option maxHeartbeats 4000000
set_option maxRecDepth 100000
theorem Zdu : ∀ (l : List Bar) (p : Option Bar), (∀ b ∈ l, barE b.1 b.2.1 b.2.2 = 0) → l.Pairwise bltP → (∀ q, p = some q → ∀ b ∈ l, bltP q b) → Z1w p l = 0
 | [], p, _, _, _ => by cases p <;> rfl
 | b :: r, p, h1, h2, h3 => by
  rw [Z1w, if_neg (by have := h1 b (by simp); omega)]
  have hr : Z1w (some b) r = 0 := Zdu r (some b) (fun c hc => h1 c (by simp [hc])) (List.pairwise_cons.1 h2).2 (fun q hq c hc => by
   obtain rfl : b = q := by simpa using hq
   exact (List.pairwise_cons.1 h2).1 c hc)
  rw [hr]; cases p with
  | none => rfl
  | some q =>
   have : Z1u q.1 q.2.1 q.2.2 b.1 b.2.1 b.2.2 = true := h3 q rfl b (by simp)
   simp [this]
theorem Zdv {l : List Bar} (h1 : ∀ b ∈ l, barE b.1 b.2.1 b.2.2 = 0) (h2 : l.Pairwise bltP) (h3 : l.length ≤ 4096) : netE l = 0 := by
 unfold netE
 rw [if_neg (by omega)]
 exact Zdu l none h1 h2 (fun q h => by cases h)
theorem Zdw {a b : Bar} (h : a.2.1 < b.2.1) : bltP a b := by
 unfold bltP Z1u
 exact decide_eq_true (.inl h)
theorem Zdx {a b : Bar} (h : a.2.1 = b.2.1) (h2 : a.1 < b.1) : bltP a b := by
 unfold bltP Z1u
 exact decide_eq_true (.inr ⟨h, .inl h2⟩)
theorem Zdy (s : Strp) (y x : Int) : (Z6z s y x).Pairwise bltP := by
 unfold Z6z
 split
 ·exact List.Pairwise.nil
 ·split <;> split <;> simp [bltP, Z1u]
theorem Zdz (s : Strp) (y : Int) : ∀ n, (Z70 s y n).Pairwise bltP
 | 0 => List.Pairwise.nil
 | n + 1 => by
  unfold Z70; rw [List.pairwise_append]; refine ⟨Zdz s y n, Zdy s y _, fun a ha b hb => ?_⟩
  obtain ⟨m, hm, ha⟩ := Zbj n ha
  obtain ⟨a1, a2, _⟩ := Zbi ha
  obtain ⟨b1, b2, _⟩ := Zbi hb
  exact Zdx (by rw [a2, b2]) (by omega)
theorem Ze0 (l : List Strp) : ∀ n, (netN l n).Pairwise bltP
 | 0 => List.Pairwise.nil
 | n + 1 => by
  unfold netN; rw [List.pairwise_append]; refine ⟨Ze0 l n, Zdz _ _ _, fun a ha b hb => ?_⟩
  obtain ⟨k, hk, ha⟩ := Zbl n ha
  obtain ⟨a1, _⟩ := Zbk ha
  obtain ⟨b1, _⟩ := Zbk (s := l.getD n (0, 0, 0, 0)) (y := (n : Int)) hb
  exact Zdw (by omega)
theorem Ze1 {x y : Int} (hx : -100000 ≤ x ∧ x ≤ 100000) (hy : -100000 ≤ y ∧ y ≤ 100000) (h : (x + y) % 2 = 0) : Z1a x y = 0 := by
 unfold Z1a farB
 rw [decide_eq_false (by omega), decide_eq_false (by omega), decide_eq_false (by omega), decide_eq_false (by omega), if_pos h]
 rfl
theorem Ze2 {p : Pan} (h : Zas p) {b : Bar} (hb : b ∈ netL p) : barE b.1 b.2.1 b.2.2 = 0 := by
 obtain ⟨k, hk, hm⟩ := Zbl _ hb
 obtain ⟨h1, h2, h3, h4, h5, h6, h7⟩ := Zbk hm
 have hs : Zaz ((Z6y p).getD k (0, 0, 0, 0)) := by
  rw [List.getD_eq_getElem?_getD, List.getElem?_eq_getElem hk, Option.getD_some]
  exact Zb2 h _ (List.getElem_mem _)
 have hl := Zb4 h
 obtain ⟨x, y, s⟩ := b
 simp only at h1 h2 h3 h4 h5 h6 h7 ⊢
 subst h1
 unfold Zaz at hs
 unfold barE
 rw [Ze1 (by omega) (by omega) h5, if_neg (by simp), if_neg (by omega)]
 exact Ze1 (by omega) (by omega) (by omega)
theorem Ze3 {p : Pan} (h : Zas p) (hl : (netL p).length ≤ 4096) : netE (netL p) = 0 := Zdv (fun _ hb => Ze2 h hb) (Ze0 _ _) hl
attribute [local go_sem] Oper.semAt_some
def Ze4 (p : Pan) : Array Value := #[.int .i64 (Z34 p false).1, .int .i64 (Z34 p false).2, .int .i64 (Z34 p true).1, .int .i64 (Z34 p true).2,
 .int .i64 (posK false (Z34 p false) (stpL p.2.2.1)).1, .int .i64 (posK false (Z34 p false) (stpL p.2.2.1)).2, .int .i64 (posK true (Z34 p true) (stpL p.2.2.2)).1, .int .i64 (posK true (Z34 p true) (stpL p.2.2.2)).2]
theorem Ze5 (p : Pan) (right : Bool) : (outP p right)[0]? = some (Z34 p right) := by
 unfold outP
 cases stpL (Z33 p right) <;> rfl
def rowL (n : Nat) (f : Nat → Int × Int) : List (Int × Int) := (List.range n).map f
def rowC (n : Nat) (f : Nat → Int × Int) : Array Value := ((rowL n f).flatMap kc).toArray
theorem Ze6 : ∀ l : List (Int × Int), (l.flatMap kc).length = 2 * l.length
 | [] => rfl
 | a :: r => by rw [List.flatMap_cons, List.length_append, Ze6 r, List.length_cons]; simp [kc]; omega
theorem Ze7 : ∀ (l : List (Int × Int)) (i : Nat), (l.flatMap kc)[2 * i]? = (l[i]?).map (fun x => Value.int .i64 x.1) ∧ (l.flatMap kc)[2 * i + 1]? = (l[i]?).map (fun x => Value.int .i64 x.2)
 | [], i => by simp
 | a :: r, 0 => by simp [kc]
 | a :: r, i + 1 => by
  have ih := Ze7 r i
  have e : (a :: r).flatMap kc = .int .i64 a.1 :: .int .i64 a.2 :: r.flatMap kc := by simp [kc]
  rw [e]; exact ⟨by rw [show 2 * (i + 1) = 2 * i + 1 + 1 by omega]; simpa using ih.1, by rw [show 2 * (i + 1) + 1 = 2 * i + 1 + 1 + 1 by omega]; simpa using ih.2⟩
theorem Ze8 : ∀ (l : List (Int × Int)) (i : Nat) (a b : Int), ((l.flatMap kc).set (2 * i) (.int .i64 a)).set (2 * i + 1) (.int .i64 b) = (l.set i (a, b)).flatMap kc
 | [], i, _, _ => by simp
 | x :: r, 0, _, _ => by simp [kc]
 | x :: r, i + 1, a, b => by
  have ih := Ze8 r i a b
  have e : (x :: r).flatMap kc = .int .i64 x.1 :: .int .i64 x.2 :: r.flatMap kc := by simp [kc]
  have e2 : ((x :: r).set (i + 1) (a, b)).flatMap kc = .int .i64 x.1 :: .int .i64 x.2 :: (r.set i (a, b)).flatMap kc := by simp [kc]
  rw [e, e2, ← ih, show 2 * (i + 1) = 2 * i + 1 + 1 by omega, show 2 * i + 1 + 1 + 1 = 2 * i + 1 + 1 + 1 by rfl]
  rfl
theorem Ze9 (n : Nat) (f : Nat → Int × Int) : (rowL n f).length = n := by unfold rowL; simp
theorem Zea {n y : Nat} (f : Nat → Int × Int) (p : Int × Int) : (rowL n f).set y p = rowL n (fun z => if z = y then p else f z) := by
 unfold rowL
 apply List.ext_getElem
 ·simp
 ·intro i h1 h2
  simp only [List.getElem_set, List.getElem_map, List.getElem_range]; by_cases h : y = i
  ·rw [if_pos h, if_pos h.symm]
  ·rw [if_neg h, if_neg (fun e => h e.symm)]
theorem Zeb {n y : Nat} (f : Nat → Int × Int) (hy : y < n) : (rowC n f)[2 * y]? = some (.int .i64 (f y).1) ∧ (rowC n f)[2 * y + 1]? = some (.int .i64 (f y).2) := by
 obtain ⟨h1, h2⟩ := Ze7 (rowL n f) y
 have e : (rowL n f)[y]? = some (f y) := by unfold rowL; simp [hy]
 rw [e] at h1 h2
 unfold rowC
 exact ⟨by simpa using h1, by simpa using h2⟩
theorem Zec {n y : Nat} (f : Nat → Int × Int) (a b : Int) : ((rowC n f).setIfInBounds (2 * y) (.int .i64 a)).setIfInBounds (2 * y + 1) (.int .i64 b) = rowC n (fun z => if z = y then (a, b) else f z) := by
 unfold rowC
 rw [List.setIfInBounds_toArray, List.setIfInBounds_toArray, Ze8, Zea f]
theorem Zed {P : Program} {ops : Array Oper} {rest : List Oper} {op : Oper} {a : Act} {Q : Exit → Act → World → Prop} {w : World} {g o : Nat} {t : TypeId} {cs cells : Array Value} (h : Blk w g t cs) (hgd : op.guard = none) (ty : TypeId) (x y : Operand) (ho : op.op = .store ty x y)
  (hx : a.eval x = .pointer (some ⟨g, o, none⟩)) (hy : a.eval y = .agg cells) (hsz : o + cells.size ≤ cs.size) (hi : (P.info? ty).map (·.size) = some cells.size) (h1 : cells.all (·.oneCell') = true)
  (hK : wpList P ops Q rest (a.put op.dst undef) (w.setCells g o cells.toList)) : wpList P ops Q (op :: rest) a w := by
 refine wpList_plain hgd fun K hK' => ?_
 have ht : w.there g o cells.size := fun j hj => by
  rw [h.cell, h.frozen]; simp [show o + j < cs.size by omega]
 have hr := run_storeVar_mid (P := P) w g o ty cells ht hi h1
 unfold Oper.wp execOp
 simp only [ho, hx, hy, Instr.storeAt, Instr.sureAddr, Sem.run_bind, Sem.run_pure, Result.andThen_ok, hr]
 exact hK' _ _ hK
theorem Chg.setIn {S : List Nat} {w W : World} (h : Chg S w W) {p : Addr} (hp : p.block ∈ S) (u : Value) : Chg S w (W.setCell p u) :=
 h.trans ⟨rfl, rfl, rfl, by simp, fun k _ hn => Below.heap_setCell W p u k (by rintro rfl; exact hn hp)⟩
theorem Zee (n : Nat) (f : Nat → Int × Int) : (rowC n f).size = 2 * n := by
 unfold rowC
 rw [List.size_toArray, Ze6, Ze9]
theorem Zef (B g n y : Nat) (f : Nat → Int × Int) (x : Int) (w : World) (hB : Blk w B 261 #[.slice (some ⟨g, 0, none⟩) n n]) (hg : Blk w g 119 (rowC n f)) (hy : y < n) :
  Calls Tryz.prog 214 #[.int .i64 y, .int .i64 x, .bool false, .pointer (some ⟨B, 0, none⟩)] w fun e w' => e = .returned (.tuple #[]) ∧ Blk w' g 119 (rowC n (putF f y x false)) ∧ Chg [g] w w' := by
 have fB := hB.facts
 have fg := hg.facts
 obtain ⟨g0, g1⟩ := Zeb f hy
 have c0 : w.cell? ⟨g, y * 2, none⟩ = some (.int .i64 (f y).1) := by rw [hg.cell, Nat.mul_comm]; exact g0
 have c1 : w.cell? ⟨g, y * 2 + 1, none⟩ = some (.int .i64 (f y).2) := by rw [hg.cell, Nat.mul_comm]; exact g1
 clear g0 g1 fg
 have glt := hg.lt
 have ff := hg.frozen
 go_enter Tryz.func214, Tryz.ntmps214
 go_upto_region 2 with fail
 refine Z0z [0, 1, 2, 3, 4, 5, 6, 7, 8, 9, 10, 11, 12, 13, 14, 15, 16, 17] [] [18] (by kernel_rfl) (by kernel_rfl) (fun d _ _ _ _ h => by cases d <;> exact h) ?_
 simp only [List.map_cons, List.map_nil, List.getD_cons_zero, List.getD_cons_succ]
 repeat (go_big_quiet_step (fail))
 refine wpQuiet_nil ?_
 refine Z10 ?_
 go_wp2
 go_end0
 refine ⟨rfl, ?_, ((Chg.refl.setIn (p := ⟨g, y * 2, none⟩) (by simp) _).setIn (p := ⟨g, y * 2 + 1, none⟩) (by simp) _).drew⟩
 have h1 := (((hg.set_ (y * 2) (.int .i64 (min (f y).1 x))).set_ (y * 2 + 1) (.int .i64 (max (f y).2 x)))).drew
 rw [show y * 2 = 2 * y by omega, Zec] at h1
 rw [show y * 2 = 2 * y by omega]
 exact h1
theorem Zeg (B g n y : Nat) (f : Nat → Int × Int) (x : Int) (w : World) (hB : Blk w B 261 #[.slice (some ⟨g, 0, none⟩) n n]) (hg : Blk w g 119 (rowC n f)) (hy : y < n) :
  Calls Tryz.prog 214 #[.int .i64 y, .int .i64 x, .bool true, .pointer (some ⟨B, 0, none⟩)] w fun e w' => e = .returned (.tuple #[]) ∧ Blk w' g 119 (rowC n (putF f y x true)) ∧ Chg [g] w w' := by
 have fB := hB.facts
 have fg := hg.facts
 have glt := hg.lt
 have hg2 : Blk ((w.setCell ⟨g, y * 2, none⟩ (.int .i64 x)).setCell ⟨g, y * 2 + 1, none⟩ (.int .i64 x)) g 119 (rowC n (fun z => if z = y then (x, x) else f z)) := by
  have h1 := (hg.set_ (y * 2) (.int .i64 x)).set_ (y * 2 + 1) (.int .i64 x)
  rw [show y * 2 = 2 * y by omega, Zec] at h1
  rw [show y * 2 = 2 * y by omega]
  exact h1
 obtain ⟨g0, g1⟩ := Zeb (f := fun z => if z = y then (x, x) else f z) hy
 simp only [if_true] at g0 g1
 have hne : B ≠ g := by
  rintro rfl
  unfold Blk at hB hg; rw [hB] at hg; simp at hg
 have hB2 : Blk ((w.setCell ⟨g, y * 2, none⟩ (.int .i64 x)).setCell ⟨g, y * 2 + 1, none⟩ (.int .i64 x)) B 261 #[.slice (some ⟨g, 0, none⟩) n n] := (hB.far (p := ⟨g, y * 2, none⟩) hne _).far (p := ⟨g, y * 2 + 1, none⟩) hne _
 obtain ⟨o0, o1⟩ := Zeb f hy
 have c0 : w.cell? ⟨g, y * 2, none⟩ = some (.int .i64 (f y).1) := by rw [hg.cell, Nat.mul_comm]; exact o0
 have c1 : w.cell? ⟨g, y * 2 + 1, none⟩ = some (.int .i64 (f y).2) := by rw [hg.cell, Nat.mul_comm]; exact o1
 have hfr := hg.frozen
 have hfr2 : ∀ i, (w.setCell ⟨g, y * 2, none⟩ (.int .i64 x)).frozen? ⟨g, i, none⟩ = false := (hg.set_ (y * 2) (.int .i64 x)).frozen
 have HG0 := Lib.hid g0
 have HG1 := Lib.hid g1
 clear o0 o1 g0 g1
 go_enter Tryz.func214, Tryz.ntmps214
 go_upto_region 2 with (refine Zed hg rfl _ _ _ rfl rfl rfl (by rw [Zee]; simp; omega) (by kernel_rfl) (by kernel_rfl) ?_)
 simp only [World.setCells, Act.put]
 obtain ⟨w2, hw2⟩ : ∃ X, (w.setCell ⟨g, y * 2, none⟩ (.int .i64 x)).setCell ⟨g, y * 2 + 1, none⟩ (.int .i64 x) = X := ⟨_, rfl⟩
 have hc2 : Chg [g] w w2 := by rw [← hw2]; exact ((Chg.refl.setIn (p := ⟨g, y * 2, none⟩) (by simp) _).setIn (p := ⟨g, y * 2 + 1, none⟩) (by simp) _)
 rw [hw2] at hg2 hB2 ⊢
 have fB2 := hB2.facts
 clear hw2 c0 c1 fB hfr hfr2
 have d0 : w2.cell? ⟨g, y * 2, none⟩ = some (.int .i64 x) := by rw [hg2.cell, Nat.mul_comm]; exact HG0.out
 have d1 : w2.cell? ⟨g, y * 2 + 1, none⟩ = some (.int .i64 x) := by rw [hg2.cell, Nat.mul_comm]; exact HG1.out
 have glt2 := hg2.lt
 clear glt hg hB hB2
 refine Z0z [0, 1, 2, 3, 4, 5, 6, 7, 8, 9, 10, 11, 12, 13, 14, 15, 16, 17] [] [18] (by kernel_rfl) (by kernel_rfl) (fun d _ _ _ _ h => by cases d <;> exact h) ?_
 simp only [List.map_cons, List.map_nil, List.getD_cons_zero, List.getD_cons_succ]
 repeat (go_big_quiet_step (fail))
 refine wpQuiet_nil ?_
 refine Z10 ?_
 go_wp2_with (refine Zed hg2.drew rfl _ _ _ rfl rfl rfl (by rw [Zee]; simp; omega) (by kernel_rfl) (by kernel_rfl) ?_)
 simp only [World.setCells]
 go_end0
 have hc3 : Chg [g] w2 w2.drew := (Chg.refl : Chg [g] w2 w2).drew
 refine ⟨rfl, ?_, hc2.trans ((hc3.setIn (p := ⟨g, y * 2, none⟩) (by simp) _).setIn (p := ⟨g, y * 2 + 1, none⟩) (by simp) _)⟩
 have h3 := (hg2.drew.set_ (y * 2) (.int .i64 x)).set_ (y * 2 + 1) (.int .i64 x)
 rw [show y * 2 = 2 * y by omega, Zec] at h3
 rw [show y * 2 = 2 * y by omega]
 have e : (fun z => if z = y then (x, x) else if z = y then (x, x) else f z) = putF f y x true := by
  funext z
  unfold putF Z6o; by_cases h : z = y <;> simp [h]
 rw [e] at h3
 exact h3
end Go.Proofs.YtpcgeihemkhkjaaGreatDoor
namespace Go.Proofs.YtpcgeihemkhkjaaGreatDoor
open Go.RowKit Go.ChangeMaps
set_option maxHeartbeats 4000000
set_option maxRecDepth 100000
def rowG {α : Type} (enc : α → List Value) (n : Nat) (f : Nat → α) : Array Value := (((List.range n).map f).flatMap enc).toArray
section
variable {α : Type} {enc : α → List Value} {sz : Nat}
theorem Zeh (hk : ∀ x, (enc x).length = sz) : ∀ l : List α, (l.flatMap enc).length = l.length * sz
 | [] => by simp
 | a :: r => by rw [List.flatMap_cons, List.length_append, Zeh hk r, hk, List.length_cons, Nat.succ_mul, Nat.add_comm]
theorem Zei (hk : ∀ x, (enc x).length = sz) : ∀ (l : List α) (i j : Nat), j < sz → (l.flatMap enc)[i * sz + j]? = (l[i]?).bind fun x => (enc x)[j]?
 | [], i, j, _ => by simp
 | a :: r, 0, j, hj => by
  rw [List.flatMap_cons, Nat.zero_mul, Nat.zero_add, List.getElem?_append_left (by rw [hk]; exact hj)]
  rfl
 | a :: r, i + 1, j, hj => by
  rw [List.flatMap_cons, List.getElem?_append_right (by rw [hk, Nat.succ_mul]; omega), hk, show (i + 1) * sz + j - sz = i * sz + j by rw [Nat.succ_mul]; omega, Zei hk r i j hj]
  rfl
theorem Zej (hk : ∀ x, (enc x).length = sz) {u : Value} {x' : α} : ∀ (l : List α) (i j : Nat) (x : α), l[i]? = some x → j < sz → enc x' = (enc x).set j u → (l.flatMap enc).set (i * sz + j) u = (l.set i x').flatMap enc
 | [], i, j, x, h, _, _ => by simp at h
 | a :: r, 0, j, x, h, hj, he => by
  obtain rfl : a = x := by simpa using h
  rw [List.flatMap_cons, Nat.zero_mul, Nat.zero_add, List.set_append_left _ _ (by rw [hk]; exact hj), ← he]
  rfl
 | a :: r, i + 1, j, x, h, hj, he => by
  rw [List.flatMap_cons, List.set_append_right _ _ (by rw [hk, Nat.succ_mul]; omega), hk, show (i + 1) * sz + j - sz = i * sz + j by rw [Nat.succ_mul]; omega, Zej hk r i j x (by simpa using h) hj he]
  rfl
theorem Zek (hk : ∀ x, (enc x).length = sz) (n : Nat) (f : Nat → α) : (rowG enc n f).size = n * sz := by
 unfold rowG
 rw [List.size_toArray, Zeh hk]
 simp
theorem Zel (hk : ∀ x, (enc x).length = sz) {n y j : Nat} (f : Nat → α) (hy : y < n) (hj : j < sz) : (rowG enc n f)[y * sz + j]? = (enc (f y))[j]? := by
 unfold rowG
 have := Zei hk ((List.range n).map f) y j hj
 have e : ((List.range n).map f)[y]? = some (f y) := by simp [hy]
 rw [e] at this
 simpa using this
theorem Zem (hk : ∀ x, (enc x).length = sz) {n y j : Nat} {u : Value} (f : Nat → α) (x' : α) (hy : y < n) (hj : j < sz) (he : enc x' = (enc (f y)).set j u) : (rowG enc n f).setIfInBounds (y * sz + j) u = rowG enc n (fun z => if z = y then x' else f z) := by
 unfold rowG
 have e : ((List.range n).map f)[y]? = some (f y) := by simp [hy]
 rw [List.setIfInBounds_toArray, Zej hk _ _ _ _ e hj he]
 congr 2
 apply List.ext_getElem
 ·simp
 ·intro i h1 h2
  simp only [List.getElem_set, List.getElem_map, List.getElem_range]; by_cases h : y = i
  ·rw [if_pos h, if_pos h.symm]
  ·rw [if_neg h, if_neg (fun e => h e.symm)]
theorem Zen (hk : ∀ x, (enc x).length = sz) (z : α) (hs : 0 < sz) (n : Nat) : madeCells (enc z).toArray (n * sz) = rowG enc n fun _ => z := by
    apply Array.ext_getElem?
    intro i; by_cases hi : i < n * sz
    · have h1 : i / sz < n := Nat.div_lt_of_lt_mul (by rw [Nat.mul_comm]; exact hi)
      have h2 : i % sz < sz := Nat.mod_lt _ hs
      have h3 : i / sz * sz + i % sz = i := by rw [Nat.mul_comm]; exact Nat.div_add_mod i sz
      have h4 := Zel hk (fun _ => z) h1 h2
      rw [h3] at h4; rw [h4]; have h5 : i % sz < (enc z).length := by rw [hk]; exact h2
      rw [Array.getElem?_eq_getElem (by rw [size_madeCells]; exact hi), List.getElem?_eq_getElem h5]
      simp only [madeCells, Array.getElem_map, Array.getElem_range, List.size_toArray, hk]; rw [getElem!_pos (enc z).toArray (i % sz) (by simpa using h5)]
      simp
    · rw [Array.getElem?_eq_none (by rw [size_madeCells]; omega), Array.getElem?_eq_none (by rw [Zek hk]; omega)]
theorem Zeo {P : Program} {t e : TypeId} {bytes : Nat} (E : Elem P t e sz bytes) (hk : ∀ x, (enc x).length = sz) (z : α) {v : Value} (hv : (P.info? e).bind (·.zero) = some v) (hc : v.cells = (enc z).toArray) (w : World) (n : Nat) (hn : n ≤ 1000000) (hb : bytes ≤ 1000) :
  (Instr.makeSlice t (.int .i64 (n : Int)) (.int .i64 (n : Int))).run P w = .ok (.slice (some ⟨w.heap.size, 0, none⟩) n n) (w.alloc (.cells (rowG enc n fun _ => z) e)) := by
 obtain ⟨hund, hrow, hpos⟩ := E
 obtain ⟨i, hi, hrow⟩ : ∃ i, P.info? e = some i ∧ (i.zero.map (fun z => z.cells.size), i.size, i.bytes) = (some sz, sz, bytes) := by
  cases h : P.info? e with
  | none => rw [h] at hrow; cases hrow
  | some i => rw [h] at hrow; exact ⟨i, rfl, Option.some.inj hrow⟩
 have h2 := congrArg (fun x => x.2.1) hrow
 have h3 := congrArg (fun x => x.2.2) hrow
 simp only at h2 h3
 rw [hi] at hv
 have hmul : bytes * n ≤ 1000 * 1000000 := Nat.mul_le_mul hb hn
 have hmul2 : (bytes : Int) * (n : Int) ≤ 1000000000 := by
  rw [← Int.natCast_mul]; omega
 have := run_make (P := P) w t e i v hund hi hv .i64 .i64 n n (by omega) (Int.le_refl _) (by rw [h3]; exact Int.le_trans hmul2 (by decide)) (by omega)
 rw [this]
 simp only [Int.toNat_natCast, h2, hc, Zen hk z hpos]
theorem Blk.row {w : World} {g base : Nat} {e : TypeId} {n : Nat} {f : Nat → α} (h : Blk w g e (rowG enc n f)) (hk : ∀ x, (enc x).length = sz) (hb : base ≤ g) (hn : n ≤ 1000000) : Own enc sz base e w (.slice (some ⟨g, 0, none⟩) n n) ((List.range n).map f) := by
 have hl : ((List.range n).map f).length = n := by simp
 have hs : (((List.range n).map f).flatMap enc).length = n * sz := by rw [Zeh hk, hl]
 exact ⟨by rw [Zeh hk], .inr ⟨g, n, _, by rw [hl], hb, h, by rw [hl]; exact Nat.le_refl _, by unfold maxLen; omega, by simpa [rowG] using hs, by
  rw [hl]; exact List.take_of_length_le (by simp [rowG, ← hs])⟩⟩
end
theorem Zep (w : World) (n : Nat) (hn : n ≤ 1000000) : (Instr.makeSlice 261 (.int .i64 (n : Int)) (.int .i64 (n : Int))).run Tryz.prog w = .ok (.slice (some ⟨w.heap.size, 0, none⟩) n n) (w.alloc (.cells (rowC n fun _ => (0, 0)) 119)) :=
 Zeo Z8t Z21 (0, 0) (v := .agg #[.int .i64 0, .int .i64 0]) (by kernel_rfl) rfl w n hn (by decide)
theorem Zeq (w : World) (n : Nat) (hn : n ≤ 1000000) : (Instr.makeSlice 118 (.int .i64 (n : Int)) (.int .i64 (n : Int))).run Tryz.prog w = .ok (.slice (some ⟨w.heap.size, 0, none⟩) n n) (w.alloc (.cells (rowG trc n fun _ => (0, 0, 0, 0)) 234)) :=
 Zeo Z8r Z8k (0, 0, 0, 0) (v := .agg #[.int .i64 0, .int .i64 0, .int .i64 0, .int .i64 0]) (by kernel_rfl) rfl w n hn (by decide)
end Go.Proofs.YtpcgeihemkhkjaaGreatDoor

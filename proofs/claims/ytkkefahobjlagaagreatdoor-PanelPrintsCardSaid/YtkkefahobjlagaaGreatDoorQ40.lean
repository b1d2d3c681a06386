/- Short panels, walked. Conditions: none. -/
import Derived.Test.YtkkefahobjlagaaGreatDoorQ39
import Derived.Test.YtkkefahobjlagaaGreatDoorQ34
namespace Go.Proofs.YtkkefahobjlagaaGreatDoor
open Go.RowKit Go.ChangeMaps
set_option maxHeartbeats 4000000
set_option maxRecDepth 100000
attribute [local go_sem] Oper.semAt_some
def shLet1 (e : Edg) : Int := if 0 < e.2.1 ∧ e.2.1 ≤ 64 then (e.1.length : Int) * e.2.1 else 0
def shLet (l : List Edg) : Int := (l.map shLet1).sum
def shortS (l : List Edg) (n : Int) : Bool := (!(decide (3 < l.length) && decide (l.length ≤ 64)) && !decide (66 < l.length)) && ((l.all fun e => decide (e.1.length ≤ 66)) && (decide (shLet l ≤ n) || decide (64 < l.length)))
theorem shLet_take {l : List Edg} {k : Nat} (hk : k < l.length) : shLet (l.take (k + 1)) = shLet (l.take k) + (if 0 < l[k].2.1 ∧ l[k].2.1 ≤ 64 then (l[k].1.length : Int) * l[k].2.1 else 0) := by
 unfold shLet
 rw [List.take_succ_eq_append_getElem hk, List.map_append, List.sum_append]
 simp [shLet1]
theorem all66_take {l : List Edg} {k : Nat} (hk : k < l.length) (h : (l.take k).all (fun e => decide (e.1.length ≤ 66)) = true) (h2 : l[k].1.length ≤ 66) : (l.take (k + 1)).all (fun e => decide (e.1.length ≤ 66)) = true := by
 rw [List.take_succ_eq_append_getElem hk, List.all_append, h]
 simp [h2]
theorem all66_in {l : List Edg} {k : Nat} (hk : k < l.length) (h : 66 < l[k].1.length) : l.all (fun e => decide (e.1.length ≤ 66)) = false := by
 rw [List.all_eq_false]
 exact ⟨l[k], List.getElem_mem hk, by simp; omega⟩
theorem shortSide_any {v : Value} (l : List Edg) (n : Int) (w : World) (h : SlE w v l) : Calls Tryz.prog 52 #[v, .int .i64 n] w (RV w (.bool (shortS l n))) := by
 obtain ⟨A, c, rfl, hlc, hcm, hr⟩ := h
 have hl : l.length ≤ maxLen := Nat.le_trans hlc hcm
 unfold maxLen at hl
 have HQ : Hid (l.all (fun e => decide (e.1.length ≤ 66)) = false → shortS l n = false) := fun h => by unfold shortS; rw [h]; simp
 by_cases h3 : l.length ≤ 3
 ·have hA1 : (!(decide (3 < l.length) && decide (l.length ≤ 64)) && !decide (66 < l.length)) = true := by simp; omega
  have t1 : (3 < (l.length : Int)) = False := eq_false (by omega)
  have t2 : (66 < (l.length : Int)) = False := eq_false (by omega)
  go_enter Tryz.func52, Tryz.ntmps52
  go_upto_region 3 with fail
  go_wp2
  go_loopw [5, 6] (fun n i wr => ∃ (k : Nat) (m : Int), k ≤ l.length ∧ i = .int .i64 k ∧ n = .int .i64 m ∧ (0 ≤ m ∧ m ≤ 5000 * (k : Int)) ∧ Hid (shLet (l.take k) = m ∧ (l.take k).all (fun e => decide (e.1.length ≤ 66)) = true) ∧ Below w.heap.size w wr) (fun _ i _ => l.length - (intOf i).toNat)
  case atStart => exact ⟨0, 0, Nat.zero_le _, rfl, rfl, by omega, ⟨rfl, rfl⟩, by (repeat first|exact J0|assumption|(apply J1;assumption)|apply J2|apply J3|apply J4)⟩
  case round =>
   obtain ⟨k, m, hk, rfl, rfl, hm, H, hbw⟩ := hrel
   obtain ⟨wo, rfl⟩ : ∃ x, x = wr := ⟨_, rfl⟩
   by_cases hlt : k < l.length
   ·obtain ⟨b, off, rfl, hb, e0, e1, e2⟩ := (hr.below hbw).edge hlt
    have HD := Lib.hid (shLet_take hlt)
    have HA := Lib.hid (all66_take hlt)
    have HI := Lib.hid (all66_in hlt)
    obtain ⟨⟨s, t, o⟩, hx⟩ : ∃ z, l[k] = z := ⟨_, rfl⟩
    rw [hx] at e0 e1 e2 HD HA HI
    simp only at e0 e1 e2
    clear hx
    by_cases h66 : 66 < s.length
    ·have HT : Hid (shortS l n = false) := HQ.out (HI.out h66)
     have s1 : (66 < (s.length : Int)) = True := eq_true (by omega)
     go_wp2
     go_ret
     exact ⟨by rw [HT.out]; rfl, hbw⟩
    ·have s1 : (66 < (s.length : Int)) = False := eq_false (by omega)
     have hs66 : s.length ≤ 66 := by omega
     have HA2 : Hid ((l.take (k + 1)).all (fun e => decide (e.1.length ≤ 66)) = true) := HA.out H.out.2 hs66
     have HD2 : Hid (shLet (l.take (k + 1)) = m + (if 0 < t ∧ t ≤ 64 then (s.length : Int) * t else 0)) := by unfold Hid; rw [HD.out, H.out.1]
     clear h66 HD HA HI
     by_cases ht : 0 < t
     ·have s2 : (0 < t) = True := eq_true ht
      by_cases ht2 : t ≤ 64
      ·have s3 : (t ≤ 64) = True := eq_true ht2
       have hmul : 0 ≤ (s.length : Int) * t ∧ (s.length : Int) * t ≤ 66 * 64 := by
        obtain ⟨tn, rfl⟩ : ∃ tn : Nat, t = tn := ⟨t.toNat, by omega⟩
        have := Nat.mul_le_mul hs66 (show tn ≤ 64 by omega)
        exact ⟨Int.mul_nonneg (by omega) (by omega), by exact_mod_cast this⟩
       have HD3 : Hid (shLet (l.take (k + 1)) = m + (s.length : Int) * t) := by unfold Hid; rw [HD2.out, if_pos ⟨ht, ht2⟩]
       obtain ⟨P, hP⟩ : ∃ P, (s.length : Int) * t = P := ⟨_, rfl⟩
       have hsz : (({ data := s.toArray } : ByteArray)).size = s.length := rfl
       rw [hP] at hmul HD3
       clear HD2
       go_upto_region 10 with fail
       refine wp_region_ords [0, 1, 2, 3, 4, 5, 6, 7, 8, 9, 10, 11, 12, 13, 14] [] [] (by kernel_rfl) (by kernel_rfl) (fun d _ _ _ _ h => by cases d <;> exact h) ?_
       simp only [List.map_cons, List.map_nil, List.getD_cons_zero, List.getD_cons_succ]
       repeat (go_big_quiet_step (fail))
       refine wpQuiet_nil ?_
       refine wpMid_nil ?_
       go_wp2
       go_roundw
       case rel => exact ⟨k + 1, m + P, by omega, by go_num, rfl, by push_cast; omega, ⟨HD3.out, HA2.out⟩, by (repeat first|exact J0|assumption|(apply J1;assumption)|apply J2|apply J3|apply J4)⟩
       case measure => simp [intOf]; omega
      ·have s3 : (t ≤ 64) = False := eq_false ht2
       have HD3 : Hid (shLet (l.take (k + 1)) = m) := by unfold Hid; rw [HD2.out, if_neg (fun h => ht2 h.2)]; omega
       clear HD2
       go_wp2
       go_roundw
       case rel => exact ⟨k + 1, m, by omega, by go_num, rfl, by push_cast; omega, ⟨HD3.out, HA2.out⟩, hbw⟩
       case measure => simp [intOf]; omega
     ·have s2 : (0 < t) = False := eq_false ht
      have HD3 : Hid (shLet (l.take (k + 1)) = m) := by unfold Hid; rw [HD2.out, if_neg (fun h => ht h.1)]; omega
      clear HD2
      go_wp2
      go_roundw
      case rel => exact ⟨k + 1, m, by omega, by go_num, rfl, by push_cast; omega, ⟨HD3.out, HA2.out⟩, hbw⟩
      case measure => simp [intOf]; omega
   ·obtain rfl : k = l.length := by omega
    have HT := H.out
    rw [List.take_length] at HT
    have HS : Hid (shortS l n = (decide (m ≤ n) || decide (64 < l.length))) := by
     unfold Hid shortS
     rw [HT.1, HT.2, hA1]
     simp
    clear HT H
    by_cases hmn : m ≤ n
    ·have HS2 : Hid (shortS l n = true) := by unfold Hid; rw [HS.out, decide_eq_true hmn]; rfl
     have s4 : (m ≤ n) = True := eq_true hmn
     go_wp2
     go_ret
     exact ⟨by rw [HS2.out]; rfl, hbw⟩
    ·have HS2 : Hid (shortS l n = decide (64 < l.length)) := by unfold Hid; rw [HS.out, decide_eq_false hmn]; rfl
     have s4 : (m ≤ n) = False := eq_false hmn
     go_wp2
     go_ret
     exact ⟨by rw [HS2.out]; simp; omega, hbw⟩
 ·have t1 : (3 < (l.length : Int)) = True := eq_true (by omega)
  by_cases h64 : l.length ≤ 64
  ·have HS : Hid (shortS l n = false) := by unfold Hid shortS; rw [decide_eq_true (show 3 < l.length by omega), decide_eq_true h64]; simp
   have t2 : ((l.length : Int) ≤ 64) = True := eq_true (by omega)
   go_enter Tryz.func52, Tryz.ntmps52
   go_wp2
   go_ret
   exact ⟨by rw [HS.out]; rfl, by (repeat first|exact J0|assumption|(apply J1;assumption)|apply J2|apply J3|apply J4)⟩
  ·have t2 : ((l.length : Int) ≤ 64) = False := eq_false (by omega)
   by_cases h66' : 66 < l.length
   ·have HS : Hid (shortS l n = false) := by unfold Hid shortS; rw [decide_eq_true h66']; simp
    have t3 : (66 < (l.length : Int)) = True := eq_true (by omega)
    go_enter Tryz.func52, Tryz.ntmps52
    go_wp2
    go_ret
    exact ⟨by rw [HS.out]; rfl, by (repeat first|exact J0|assumption|(apply J1;assumption)|apply J2|apply J3|apply J4)⟩
   ·have hA1 : (!(decide (3 < l.length) && decide (l.length ≤ 64)) && !decide (66 < l.length)) = true := by simp; omega
    have t3 : (66 < (l.length : Int)) = False := eq_false (by omega)
    go_enter Tryz.func52, Tryz.ntmps52
    go_upto_region 3 with fail
    go_wp2
    go_loopw [5, 6] (fun n i wr => ∃ (k : Nat) (m : Int), k ≤ l.length ∧ i = .int .i64 k ∧ n = .int .i64 m ∧ (0 ≤ m ∧ m ≤ 5000 * (k : Int)) ∧ Hid (shLet (l.take k) = m ∧ (l.take k).all (fun e => decide (e.1.length ≤ 66)) = true) ∧ Below w.heap.size w wr) (fun _ i _ => l.length - (intOf i).toNat)
    case atStart => exact ⟨0, 0, Nat.zero_le _, rfl, rfl, by omega, ⟨rfl, rfl⟩, by (repeat first|exact J0|assumption|(apply J1;assumption)|apply J2|apply J3|apply J4)⟩
    case round =>
     obtain ⟨k, m, hk, rfl, rfl, hm, H, hbw⟩ := hrel
     obtain ⟨wo, rfl⟩ : ∃ x, x = wr := ⟨_, rfl⟩
     by_cases hlt : k < l.length
     ·obtain ⟨b, off, rfl, hb, e0, e1, e2⟩ := (hr.below hbw).edge hlt
      have HD := Lib.hid (shLet_take hlt)
      have HA := Lib.hid (all66_take hlt)
      have HI := Lib.hid (all66_in hlt)
      obtain ⟨⟨s, t, o⟩, hx⟩ : ∃ z, l[k] = z := ⟨_, rfl⟩
      rw [hx] at e0 e1 e2 HD HA HI
      simp only at e0 e1 e2
      clear hx
      by_cases h66 : 66 < s.length
      ·have HT : Hid (shortS l n = false) := HQ.out (HI.out h66)
       have s1 : (66 < (s.length : Int)) = True := eq_true (by omega)
       go_wp2
       go_ret
       exact ⟨by rw [HT.out]; rfl, hbw⟩
      ·have s1 : (66 < (s.length : Int)) = False := eq_false (by omega)
       have hs66 : s.length ≤ 66 := by omega
       have HA2 : Hid ((l.take (k + 1)).all (fun e => decide (e.1.length ≤ 66)) = true) := HA.out H.out.2 hs66
       have HD2 : Hid (shLet (l.take (k + 1)) = m + (if 0 < t ∧ t ≤ 64 then (s.length : Int) * t else 0)) := by unfold Hid; rw [HD.out, H.out.1]
       clear h66 HD HA HI
       by_cases ht : 0 < t
       ·have s2 : (0 < t) = True := eq_true ht
        by_cases ht2 : t ≤ 64
        ·have s3 : (t ≤ 64) = True := eq_true ht2
         have hmul : 0 ≤ (s.length : Int) * t ∧ (s.length : Int) * t ≤ 66 * 64 := by
          obtain ⟨tn, rfl⟩ : ∃ tn : Nat, t = tn := ⟨t.toNat, by omega⟩
          have := Nat.mul_le_mul hs66 (show tn ≤ 64 by omega)
          exact ⟨Int.mul_nonneg (by omega) (by omega), by exact_mod_cast this⟩
         have HD3 : Hid (shLet (l.take (k + 1)) = m + (s.length : Int) * t) := by unfold Hid; rw [HD2.out, if_pos ⟨ht, ht2⟩]
         obtain ⟨P, hP⟩ : ∃ P, (s.length : Int) * t = P := ⟨_, rfl⟩
         have hsz : (({ data := s.toArray } : ByteArray)).size = s.length := rfl
         rw [hP] at hmul HD3
         clear HD2
         go_upto_region 10 with fail
         refine wp_region_ords [0, 1, 2, 3, 4, 5, 6, 7, 8, 9, 10, 11, 12, 13, 14] [] [] (by kernel_rfl) (by kernel_rfl) (fun d _ _ _ _ h => by cases d <;> exact h) ?_
         simp only [List.map_cons, List.map_nil, List.getD_cons_zero, List.getD_cons_succ]
         repeat (go_big_quiet_step (fail))
         refine wpQuiet_nil ?_
         refine wpMid_nil ?_
         go_wp2
         go_roundw
         case rel => exact ⟨k + 1, m + P, by omega, by go_num, rfl, by push_cast; omega, ⟨HD3.out, HA2.out⟩, by (repeat first|exact J0|assumption|(apply J1;assumption)|apply J2|apply J3|apply J4)⟩
         case measure => simp [intOf]; omega
        ·have s3 : (t ≤ 64) = False := eq_false ht2
         have HD3 : Hid (shLet (l.take (k + 1)) = m) := by unfold Hid; rw [HD2.out, if_neg (fun h => ht2 h.2)]; omega
         clear HD2
         go_wp2
         go_roundw
         case rel => exact ⟨k + 1, m, by omega, by go_num, rfl, by push_cast; omega, ⟨HD3.out, HA2.out⟩, hbw⟩
         case measure => simp [intOf]; omega
       ·have s2 : (0 < t) = False := eq_false ht
        have HD3 : Hid (shLet (l.take (k + 1)) = m) := by unfold Hid; rw [HD2.out, if_neg (fun h => ht h.1)]; omega
        clear HD2
        go_wp2
        go_roundw
        case rel => exact ⟨k + 1, m, by omega, by go_num, rfl, by push_cast; omega, ⟨HD3.out, HA2.out⟩, hbw⟩
        case measure => simp [intOf]; omega
     ·obtain rfl : k = l.length := by omega
      have HT := H.out
      rw [List.take_length] at HT
      have HS : Hid (shortS l n = (decide (m ≤ n) || decide (64 < l.length))) := by
       unfold Hid shortS
       rw [HT.1, HT.2, hA1]
       simp
      clear HT H
      by_cases hmn : m ≤ n
      ·have HS2 : Hid (shortS l n = true) := by unfold Hid; rw [HS.out, decide_eq_true hmn]; rfl
       have s4 : (m ≤ n) = True := eq_true hmn
       go_wp2
       go_ret
       exact ⟨by rw [HS2.out]; rfl, hbw⟩
      ·have HS2 : Hid (shortS l n = decide (64 < l.length)) := by unfold Hid; rw [HS.out, decide_eq_false hmn]; rfl
       have s4 : (m ≤ n) = False := eq_false hmn
       go_wp2
       go_ret
       exact ⟨by rw [HS2.out]; simp; omega, hbw⟩
def shortP (p : Pan) (n : Int) : Bool := decide (p.1.length ≤ 60) && ((decide (p.2.1 ≤ 8) || decide (128 < p.2.1)) && (shortS p.2.2.1 n && shortS p.2.2.2 n))
theorem shortS_words {l : List Edg} {n : Int} (h : shortS l n = true) : l.length ≤ 66 ∧ ∀ e ∈ l, e.1.length ≤ 66 := by
 unfold shortS at h
 simp only [Bool.and_eq_true, List.all_eq_true, decide_eq_true_eq, Bool.not_eq_true', decide_eq_false_iff_not] at h
 exact ⟨by omega, fun e he => h.2.1 e he⟩
theorem shortP_words {p : Pan} {n : Int} (h : shortP p n = true) : p.1.length ≤ 60 ∧ (p.2.2.1.length ≤ 66 ∧ ∀ e ∈ p.2.2.1, e.1.length ≤ 66) ∧ p.2.2.2.length ≤ 66 ∧ ∀ e ∈ p.2.2.2, e.1.length ≤ 66 := by
 unfold shortP at h
 simp only [Bool.and_eq_true, decide_eq_true_eq] at h
 exact ⟨h.1, shortS_words h.2.2.1, shortS_words h.2.2.2⟩
theorem shortP_any {vL vR : Value} (p : Pan) (n : Int) (w : World) (hnm : p.1.length ≤ maxLen) (hL : SlE w vL p.2.2.1) (hR : SlE w vR p.2.2.2) :
    Calls Tryz.prog 9 #[.agg #[sV p.1, .int .i64 p.2.1, vL, vR], .int .i64 n] w (RV w (.bool (shortP p n))) := by
  have hcL := fun W (hb : Below w.heap.size w W) => shortSide_any p.2.2.1 n W (hL.below hb)
  have hcR := fun W (hb : Below w.heap.size w W) => shortSide_any p.2.2.2 n W (hR.below hb)
  have HS : Hid (shortP p n = (decide (p.1.length ≤ 60) && ((decide (p.2.1 ≤ 8) || decide (128 < p.2.1)) && (shortS p.2.2.1 n && shortS p.2.2.2 n)))) := rfl
  obtain ⟨E, hE⟩ : ∃ E, shortP p n = E := ⟨_, rfl⟩
  obtain ⟨q1, hq1⟩ : ∃ E, shortS p.2.2.1 n = E := ⟨_, rfl⟩
  obtain ⟨q2, hq2⟩ : ∃ E, shortS p.2.2.2 n = E := ⟨_, rfl⟩
  rw [hE, hq1, hq2] at HS
  rw [hq1] at hcL
  rw [hq2] at hcR
  rw [hE]
  obtain ⟨nm, wd, L, R⟩ := p
  simp only at hnm hL hR hcL hcR HS ⊢
  obtain ⟨AL, cL, rfl, _, _, _⟩ := hL
  obtain ⟨AR, cR, rfl, _, _, _⟩ := hR
  unfold sV
  unfold maxLen at hnm
  have hB := Blk.new w 24 #[.string ⟨nm.toArray⟩, .int .i64 wd, .slice AL L.length cL, .slice AR R.length cR]
  have fB := hB.facts
  clear hE hq1 hq2
  by_cases h60 : nm.length ≤ 60
  · have t1 : ((nm.length : Int) ≤ 60) = True := eq_true (by omega)
    by_cases hw : wd ≤ 8 ∨ 128 < wd
    · have HS2 : Hid (E = (q1 && q2)) := by
        unfold Hid
        rw [HS.out, decide_eq_true h60]
        rcases hw with h | h
        · rw [decide_eq_true h]; simp
        · rw [decide_eq_true h]; simp
      clear HS
      by_cases h8 : wd ≤ 8
      · have t2 : (wd ≤ 8) = True := eq_true h8
        clear hw h8 h60
        go_enter Tryz.func9, Tryz.ntmps9
        go_wp2_with fail
        refine (hcL _ (by (repeat first|exact J0|assumption|(apply J1;assumption)|apply J2|apply J3|apply J4))).mono ?_
        rintro e w2 ⟨rfl, hb2⟩
        replace hB := hB.below (show Below _ _ w2 by (repeat first|exact J0|assumption|(apply J1;assumption)|apply J2|apply J3|apply J4))
        replace fhB := hB.facts
        cases q1
        · go_wp2
          go_ret
          exact ⟨by rw [HS2.out]; rfl, by (repeat first|exact J0|assumption|(apply J1;assumption)|apply J2|apply J3|apply J4)⟩
        · go_wp2_with (go_at_call 52; refine (hcR _ (by (repeat first|exact J0|assumption|(apply J1;assumption)|apply J2|apply J3|apply J4))).mono ?_; rintro e w3 ⟨rfl, hb3⟩)
          go_ret
          exact ⟨by rw [HS2.out]; rfl, by (repeat first|exact J0|assumption|(apply J1;assumption)|apply J2|apply J3|apply J4)⟩
      · have t2 : (wd ≤ 8) = False := eq_false h8
        have t3 : (128 < wd) = True := eq_true (by omega)
        clear hw h8 h60
        go_enter Tryz.func9, Tryz.ntmps9
        go_wp2_with fail
        refine (hcL _ (by (repeat first|exact J0|assumption|(apply J1;assumption)|apply J2|apply J3|apply J4))).mono ?_
        rintro e w2 ⟨rfl, hb2⟩
        replace hB := hB.below (show Below _ _ w2 by (repeat first|exact J0|assumption|(apply J1;assumption)|apply J2|apply J3|apply J4))
        replace fhB := hB.facts
        cases q1
        · go_wp2
          go_ret
          exact ⟨by rw [HS2.out]; rfl, by (repeat first|exact J0|assumption|(apply J1;assumption)|apply J2|apply J3|apply J4)⟩
        · go_wp2_with (go_at_call 52; refine (hcR _ (by (repeat first|exact J0|assumption|(apply J1;assumption)|apply J2|apply J3|apply J4))).mono ?_; rintro e w3 ⟨rfl, hb3⟩)
          go_ret
          exact ⟨by rw [HS2.out]; rfl, by (repeat first|exact J0|assumption|(apply J1;assumption)|apply J2|apply J3|apply J4)⟩
    · have HS2 : Hid (E = false) := by unfold Hid; rw [HS.out, decide_eq_false (show ¬ wd ≤ 8 by omega), decide_eq_false (show ¬ 128 < wd by omega)]; simp
      have t2 : (wd ≤ 8) = False := eq_false (by omega)
      have t3 : (128 < wd) = False := eq_false (by omega)
      clear hw
      go_enter Tryz.func9, Tryz.ntmps9
      go_wp2
      go_ret
      exact ⟨by rw [HS2.out]; rfl, by (repeat first|exact J0|assumption|(apply J1;assumption)|apply J2|apply J3|apply J4)⟩
  · have HS2 : Hid (E = false) := by unfold Hid; rw [HS.out, decide_eq_false h60]; rfl
    have t1 : ((nm.length : Int) ≤ 60) = False := eq_false (by omega)
    go_enter Tryz.func9, Tryz.ntmps9
    go_wp2
    go_ret
    exact ⟨by rw [HS2.out]; rfl, by (repeat first|exact J0|assumption|(apply J1;assumption)|apply J2|apply J3|apply J4)⟩
def GIW (w : World) (p : Pan) (e : Ending) (w' : World) : Prop :=
 ∃ uL uR, e = .returned (.agg #[sV p.1, .int .i64 p.2.1, uL, uR]) ∧ Own ec 3 w.heap.size 107 w' uL p.2.2.1 ∧ Own ec 3 w.heap.size 107 w' uR p.2.2.2 ∧ Below w.heap.size w w'
theorem given_any {vL vR : Value} (p : Pan) (w : World) (hL : SlE w vL p.2.2.1) (hR : SlE w vR p.2.2.2) (hl : p.2.2.1.length ≤ 100000) (hr : p.2.2.2.length ≤ 100000) :
  Calls Tryz.prog 13 #[.agg #[sV p.1, .int .i64 p.2.1, vL, vR]] w (GIW w p) := by
 obtain ⟨nm, wd, L, R⟩ := p
 simp only at hL hR hl hr ⊢
 obtain ⟨AL, cL, rfl, hLc, hLm, rL⟩ := hL
 obtain ⟨AR, cR, rfl, hRc, hRm, rR⟩ := hR
 unfold GIW sV
 simp only
 have hK1 := ((Blk.new w 24 #[.string ⟨nm.toArray⟩, .int .i64 wd, .slice AL L.length cL, .slice AR R.length cR]).alloc (.cells #[.string ⟨#[]⟩, .int .i64 0, .slice none 0 0, .slice none 0 0] 30)).alloc (.cells #[.string ⟨nm.toArray⟩, .int .i64 wd, .slice none 0 0, .slice none 0 0] 30)
 have hZ1 := (Blk.new1 w (.cells #[.string ⟨nm.toArray⟩, .int .i64 wd, .slice AL L.length cL, .slice AR R.length cR] 24) 30 #[.string ⟨#[]⟩, .int .i64 0, .slice none 0 0, .slice none 0 0]).alloc (.cells #[.string ⟨nm.toArray⟩, .int .i64 wd, .slice none 0 0, .slice none 0 0] 30)
 have hX1 := Blk.new2 w (.cells #[.string ⟨nm.toArray⟩, .int .i64 wd, .slice AL L.length cL, .slice AR R.length cR] 24) (.cells #[.string ⟨#[]⟩, .int .i64 0, .slice none 0 0, .slice none 0 0] 30) 30 #[.string ⟨nm.toArray⟩, .int .i64 wd, .slice none 0 0, .slice none 0 0]
 go_enter Tryz.func13, Tryz.ntmps13
 go_wp2_with fail
 obtain ⟨w1, hw1⟩ : ∃ X, ((w.alloc (.cells #[.string ⟨nm.toArray⟩, .int .i64 wd, .slice AL L.length cL, .slice AR R.length cR] 24)).alloc (.cells #[.string ⟨#[]⟩, .int .i64 0, .slice none 0 0, .slice none 0 0] 30)).alloc (.cells #[.string ⟨nm.toArray⟩, .int .i64 wd, .slice none 0 0, .slice none 0 0] 30) = X := ⟨_, rfl⟩
 have hb1 : Below w.heap.size w w1 := by rw [← hw1]; exact bl_alloc (bl_alloc (bl_alloc bl_refl _) _) _
 have hs1 : w.heap.size + 3 ≤ w1.heap.size := by rw [← hw1]; simp
 rw [hw1] at hK1 hZ1 hX1 ⊢
 clear hw1
 go_loopw [16] (fun i wr => ∃ (k : Nat) (v : Value), k ≤ L.length ∧ i = .int .i64 k ∧ Blk wr w.heap.size 24 #[.string ⟨nm.toArray⟩, .int .i64 wd, .slice AL L.length cL, .slice AR R.length cR] ∧ Blk wr (w.heap.size + 1) 30 #[.string ⟨#[]⟩, .int .i64 0, .slice none 0 0, .slice none 0 0] ∧ Blk wr (w.heap.size + 1 + 1) 30 #[.string ⟨nm.toArray⟩, .int .i64 wd, v, .slice none 0 0] ∧ Own ec 3 (w.heap.size + 3) 107 wr v (L.take k) ∧ Below w.heap.size w wr ∧ w.heap.size + 3 ≤ wr.heap.size) (fun i _ => L.length - (intOf i).toNat)
 case atStart => exact ⟨0, .slice none 0 0, Nat.zero_le _, rfl, hK1, hZ1, hX1, Own.nil_, hb1, hs1⟩
 case round =>
  obtain ⟨k, v, hk, rfl, hK, hZ, hX, hO, hbw, hsz⟩ := hrel
  obtain ⟨wo, rfl⟩ : ∃ x, x = wr := ⟨_, rfl⟩
  by_cases hlt : k < L.length
  ·obtain ⟨b, off, rfl, hb, e0, e1, e2⟩ := (rL.below hbw).edge hlt
   have HT := Lib.hid (List.take_succ_eq_append_getElem hlt)
   obtain ⟨⟨s, t, o⟩, hx⟩ : ∃ z, L[k] = z := ⟨_, rfl⟩
   rw [hx] at e0 e1 e2 HT
   simp only at e0 e1 e2
   obtain ⟨T, hT⟩ : ∃ T, L.take k = T := ⟨_, rfl⟩
   have hTl : T.length ≤ 100000 := by rw [← hT, List.length_take]; omega
   rw [hT] at hO HT
   clear hx hT
   obtain ⟨Ao, co, rfl⟩ := hO.shape
   have fX := hX.facts
   have hu := Sl.oneG (enc := ec) (sz := 3) (wo.alloc (.cells #[.string ⟨s.toArray⟩, .int .i64 t, .bool o] 132)) 107 (s, t, o) #[.string ⟨s.toArray⟩, .int .i64 t, .bool o] rfl
   rw [World.size_alloc] at hu
   have hal : Below wo.heap.size wo ((wo.alloc (.cells #[.string ⟨s.toArray⟩, .int .i64 t, .bool o] 132)).alloc (.cells #[.string ⟨s.toArray⟩, .int .i64 t, .bool o] 107)) := bl_alloc (bl_alloc bl_refl _) _
   have hal2 := hal.size
   have hOa := (hO.alloc (.cells #[.string ⟨s.toArray⟩, .int .i64 t, .bool o] 132)).alloc (.cells #[.string ⟨s.toArray⟩, .int .i64 t, .bool o] 107)
   have hXa := (hX.alloc (.cells #[.string ⟨s.toArray⟩, .int .i64 t, .bool o] 132)).alloc (.cells #[.string ⟨s.toArray⟩, .int .i64 t, .bool o] 107)
   go_wp2_with (at_builtin; refine wpList_app rfl edge_elem ec_len ec_one _ _ rfl (w.heap.size + 3) _ _ _ [(s, t, o)] rfl rfl hOa hu (by simp [maxLen]; omega) (by simp; omega) (by omega) ?_; intro v3 w3 hu3 hgr3; obtain ⟨A3, c3, rfl⟩ := hu3.shape; rw [show (T ++ [(s, t, o)]).length = T.length + 1 by simp] at hu3; have hX3 := hXa.grown hgr3 (hOa.ne_blk hXa (by decide)); have f3 := hX3.facts)
   have hz3 := hgr3.size
   have hK3 := ((hK.below hal).grown hgr3 (hOa.ne_blk (hK.below hal) (by decide))).setA (g' := w.heap.size + 1 + 1) (i := 2) (u := .slice A3 (T.length + 1) c3) (by omega)
   have hZ3 := ((hZ.below hal).grown hgr3 (hOa.ne_blk (hZ.below hal) (by decide))).setA (g' := w.heap.size + 1 + 1) (i := 2) (u := .slice A3 (T.length + 1) c3) (by omega)
   have hX4 := hX3.set_ 2 (.slice A3 (T.length + 1) c3)
   have hu4 := hu3.set (p := ⟨w.heap.size + 1 + 1, 2, none⟩) (Ne.symm (hu3.ne_blk hX3 (by decide))) (.slice A3 (T.length + 1) c3)
   have hb3 : Below w.heap.size w (w3.setCell ⟨w.heap.size + 1 + 1, 2, none⟩ (.slice A3 (T.length + 1) c3)) := below_setA (bl_grown hgr3 (bl_then hal hbw) (fun j e => by have := (hO.lt j e).1; omega)) (by omega)
   have hz4 : w3.heap.size ≤ (w3.setCell ⟨w.heap.size + 1 + 1, 2, none⟩ (.slice A3 (T.length + 1) c3)).heap.size := by simp [World.setCell]
   go_wp2
   go_roundw
   case rel => exact ⟨k + 1, .slice A3 (T.length + 1) c3, by omega, by go_num, hK3, hZ3, hX4, by rw [HT.out]; exact hu4, hb3, by omega⟩
   case measure => simp [intOf]; omega
  ·obtain rfl : k = L.length := by omega
   rw [List.take_length] at hO
   obtain ⟨vl, rfl⟩ : ∃ x, x = v := ⟨_, rfl⟩
   obtain ⟨nr, hnr0⟩ : ∃ n, wo.heap.size = n := ⟨_, rfl⟩
   have hvlt : ∀ j, vl.ownBlock = some j → j < nr := fun j h => by rw [← hnr0]; exact (hO.lt j h).2
   have hvl := hO
   have hK1 := hK
   have hZ1 := hZ
   have hX1 := hX
   have hb1 := hbw
   have hs1 := hsz
   have fK := hK.facts
   clear hO hK hZ hX
   go_wp2
   subst hnr0
   obtain ⟨nr, hnr0⟩ : ∃ n, wo.heap.size = n := ⟨_, rfl⟩
   rw [hnr0] at hvlt
   go_loopw [30] (fun i wr => ∃ (k : Nat) (v : Value), k ≤ R.length ∧ i = .int .i64 k ∧ Blk wr w.heap.size 24 #[.string ⟨nm.toArray⟩, .int .i64 wd, .slice AL L.length cL, .slice AR R.length cR] ∧ Blk wr (w.heap.size + 1) 30 #[.string ⟨#[]⟩, .int .i64 0, .slice none 0 0, .slice none 0 0] ∧ Blk wr (w.heap.size + 1 + 1) 30 #[.string ⟨nm.toArray⟩, .int .i64 wd, vl, v] ∧ Own ec 3 nr 107 wr v (R.take k) ∧ Below w.heap.size w wr ∧ w.heap.size + 3 ≤ wr.heap.size ∧ Own ec 3 (w.heap.size + 3) 107 wr vl L ∧ nr ≤ wr.heap.size) (fun i _ => R.length - (intOf i).toNat)
   case atStart => exact ⟨0, .slice none 0 0, Nat.zero_le _, rfl, hK1, hZ1, hX1, Own.nil_, hb1, hs1, hvl, by omega⟩
   case round =>
    obtain ⟨k, v, hk, rfl, hK, hZ, hX, hO, hbw, hsz, hvo, hnr⟩ := hrel
    obtain ⟨wo, rfl⟩ : ∃ x, x = wr := ⟨_, rfl⟩
    by_cases hlt : k < R.length
    ·obtain ⟨b, off, rfl, hb, e0, e1, e2⟩ := (rR.below hbw).edge hlt
     have HT := Lib.hid (List.take_succ_eq_append_getElem hlt)
     obtain ⟨⟨s, t, o⟩, hx⟩ : ∃ z, R[k] = z := ⟨_, rfl⟩
     rw [hx] at e0 e1 e2 HT
     simp only at e0 e1 e2
     obtain ⟨T, hT⟩ : ∃ T, R.take k = T := ⟨_, rfl⟩
     have hTl : T.length ≤ 100000 := by rw [← hT, List.length_take]; omega
     rw [hT] at hO HT
     clear hx hT
     obtain ⟨Ao, co, rfl⟩ := hO.shape
     have fX := hX.facts
     have hu := Sl.oneG (enc := ec) (sz := 3) (wo.alloc (.cells #[.string ⟨s.toArray⟩, .int .i64 t, .bool o] 132)) 107 (s, t, o) #[.string ⟨s.toArray⟩, .int .i64 t, .bool o] rfl
     rw [World.size_alloc] at hu
     have hal : Below wo.heap.size wo ((wo.alloc (.cells #[.string ⟨s.toArray⟩, .int .i64 t, .bool o] 132)).alloc (.cells #[.string ⟨s.toArray⟩, .int .i64 t, .bool o] 107)) := bl_alloc (bl_alloc bl_refl _) _
     have hal2 := hal.size
     have hOa := (hO.alloc (.cells #[.string ⟨s.toArray⟩, .int .i64 t, .bool o] 132)).alloc (.cells #[.string ⟨s.toArray⟩, .int .i64 t, .bool o] 107)
     have hXa := (hX.alloc (.cells #[.string ⟨s.toArray⟩, .int .i64 t, .bool o] 132)).alloc (.cells #[.string ⟨s.toArray⟩, .int .i64 t, .bool o] 107)
     go_wp2_with (at_builtin; refine wpList_app rfl edge_elem ec_len ec_one _ _ rfl nr _ _ _ [(s, t, o)] rfl rfl hOa hu (by simp [maxLen]; omega) (by simp; omega) (by omega) ?_; intro v3 w3 hu3 hgr3; obtain ⟨A3, c3, rfl⟩ := hu3.shape; rw [show (T ++ [(s, t, o)]).length = T.length + 1 by simp] at hu3; have hX3 := hXa.grown hgr3 (hOa.ne_blk hXa (by decide)); have f3 := hX3.facts)
     have hz3 := hgr3.size
     have hK3 := ((hK.below hal).grown hgr3 (hOa.ne_blk (hK.below hal) (by decide))).setA (g' := w.heap.size + 1 + 1) (i := 3) (u := .slice A3 (T.length + 1) c3) (by omega)
     have hZ3 := ((hZ.below hal).grown hgr3 (hOa.ne_blk (hZ.below hal) (by decide))).setA (g' := w.heap.size + 1 + 1) (i := 3) (u := .slice A3 (T.length + 1) c3) (by omega)
     have hX4 := hX3.set_ 3 (.slice A3 (T.length + 1) c3)
     have hu4 := hu3.set (p := ⟨w.heap.size + 1 + 1, 3, none⟩) (Ne.symm (hu3.ne_blk hX3 (by decide))) (.slice A3 (T.length + 1) c3)
     have hb3 : Below w.heap.size w (w3.setCell ⟨w.heap.size + 1 + 1, 3, none⟩ (.slice A3 (T.length + 1) c3)) := below_setA (bl_grown hgr3 (bl_then hal hbw) (fun j e => by have := (hO.lt j e).1; omega)) (by omega)
     have hz4 : w3.heap.size ≤ (w3.setCell ⟨w.heap.size + 1 + 1, 3, none⟩ (.slice A3 (T.length + 1) c3)).heap.size := by simp [World.setCell]
     have hvo3 := ((hvo.below hal).kept hgr3 (by
      cases h : vl.ownBlock with
      | none => exact .inl rfl
      | some j => exact .inr (fun e => by have h1 := hvlt j h; have h2 := (hO.lt j e.symm).1; omega))).set (p := ⟨w.heap.size + 1 + 1, 3, none⟩) (fun e => by have h1 := (hvo.lt _ e).1; simp only at h1; omega) (.slice A3 (T.length + 1) c3)
     go_wp2
     go_roundw
     case rel => exact ⟨k + 1, .slice A3 (T.length + 1) c3, by omega, by go_num, hK3, hZ3, hX4, by rw [HT.out]; exact hu4, hb3, by omega, hvo3, by omega⟩
     case measure => simp [intOf]; omega
    ·obtain rfl : k = R.length := by omega
     rw [List.take_length] at hO
     obtain ⟨A8, c8, rfl⟩ := hO.shape
     obtain ⟨A9, c9, rfl⟩ := hvo.shape
     have fX := hX.facts
     go_wp2_with (refine wpList_store_blk hZ rfl _ _ _ rfl rfl rfl (by rfl) (by kernel_rfl) (by kernel_rfl) ?_; intro w5 hZ5 hc5; have f5 := hZ5.facts)
     have hb5 := chg_bl hbw hc5 (by omega)
     have oL5 := hvo.chg hc5 (by simp <;> omega)
     have oR5 := hO.chg hc5 (by simp <;> omega)
     refine bodyPost_ret (v := .agg #[.string ⟨nm.toArray⟩, .int .i64 wd, .slice A9 L.length c9, .slice A8 R.length c8]) (by simp [results, Tryz.results13, go_sem, f5]) rfl ?_
     exact ⟨_, _, rfl, oL5.base_mono (by omega), oR5.base_mono (by omega), hb5⟩
end Go.Proofs.YtkkefahobjlagaaGreatDoor

/- Panels of straight sides, plain. Conditions: none. -/
import Derived.Test.YthkjgcldolnjaaaGreatDoorH45
namespace Go.Proofs.YthkjgcldolnjaaaGreatDoor
open Go.RowKit Go.ChangeMaps
set_option maxHeartbeats 4000000
set_option maxRecDepth 100000

/-! # Panels of straight sides -/
def greatP (w : Int) (h : Nat) (out : Bool) : Pan := ([103, 114, 101, 97, 116], w, [([78], (h : Int), false)], [([66, 66], (h : Int), out)])
theorem tim_rise (e : Edg) : ∀ n : Nat, riseL (timS e n) = n * riseL (wordS e)
  | 0 => by simp [timS, riseL]
  | n + 1 => by
    rw [timS, riseL_app, tim_rise e n]
    push_cast
    rw [Int.add_mul, Int.one_mul]
theorem tim_cnt (e : Edg) (c : UInt8) : ∀ n : Nat, ((timS e n).map (·.1)).count c = n * ((wordS e).map (·.1)).count c
  | 0 => by simp [timS]
  | n + 1 => by
    rw [timS, List.map_append, List.count_append, tim_cnt e c n, Nat.succ_mul]
theorem great_left (w : Int) (h : Nat) (out : Bool) : stpL (greatP w h out).2.2.1 = timS ([78], (h : Int), false) h := by
  show stpL [([78], (h : Int), false)] = _
  rw [stpL_cons]
  show edgS ([78], (h : Int), false) ++ stpL [] = _
  unfold edgS
  rw [show (([78], (h : Int), false) : Edg).2.1.toNat = h from Int.toNat_natCast h]
  exact List.append_nil _
theorem great_right (w : Int) (h : Nat) (out : Bool) : stpL (greatP w h out).2.2.2 = timS ([66, 66], (h : Int), out) h := by
  show stpL [([66, 66], (h : Int), out)] = _
  rw [stpL_cons]
  show edgS ([66, 66], (h : Int), out) ++ stpL [] = _
  unfold edgS
  rw [show (([66, 66], (h : Int), out) : Edg).2.1.toNat = h from Int.toNat_natCast h]
  exact List.append_nil _
theorem great_high (w : Int) (h : Nat) (out : Bool) : heightP (greatP w h out) = 2 * (h : Int) := by
  unfold heightP
  rw [great_left, tim_rise, Int.mul_comm]
  rfl
theorem great_B (w : Int) (h : Nat) (out : Bool) : ((stpL (greatP w h out).2.2.1 ++ stpL (greatP w h out).2.2.2).map (·.1)).count 66 = 2 * h := by
  rw [great_left, great_right, List.map_append, List.count_append, tim_cnt, tim_cnt]
  show h * 0 + h * 2 = 2 * h
  omega
def greatE (p : Pan) : Int := firstI [netErr p, whenI (decide (256 < frmC p) || decide (4096 < 2 * frmC p * heightP p)) 5]
theorem netL_nodup (p : Pan) : (netL p).Nodup := (netN_asc (strips p) (strips p).length).imp fun h e => by
  subst e
  unfold bltP barLt at h
  simp at h
theorem shN_nodup (x y : Int) (c n : Nat) : (shN x y c n).Nodup := (shN_sorted x y c n).imp fun h e => by
  subst e
  unfold bltP barLt at h
  simp at h
theorem greatE_eq {p : Pan} (h : panE p = 0) : restE p = greatE p ∧ (greatE p = 0 → ((restL p).length : Int) + (netL p).length = 2 * frmC p * heightP p) ∧ (greatE p ≠ 0 → restL p = []) := by
  have ok := panE_zero h
  have hf := ok.frame
  have hh := ok.high
  have hn : netErr p = whenI (decide (4096 < (netL p).length)) 5 := by unfold netErr; rw [if_pos h]
  have hR : restE p ≠ 0 → restL p = [] := fun h => by unfold restL; rw [if_neg h]
  by_cases h1 : 4096 < (netL p).length
  · have e1 : netErr p = 5 := by rw [hn, decide_eq_true h1]; rfl
    have e2 : restE p = 5 := by unfold restE; rw [e1, if_pos (by decide)]
    have e3 : greatE p = 5 := by unfold greatE; rw [e1]; rfl
    rw [e2] at hR
    rw [e2, e3]
    exact ⟨rfl, fun h => by omega, fun _ => hR (by decide)⟩
  · have e1 : netErr p = 0 := by rw [hn, decide_eq_false h1]; rfl
    by_cases h2 : 256 < frmC p ∨ 4096 < 2 * frmC p * heightP p
    · have e2 : restE p = 5 := by unfold restE; rw [e1, if_neg (by decide), if_pos h2]
      have e3 : greatE p = 5 := by
        unfold greatE
        rw [e1, show (decide (256 < frmC p) || decide (4096 < 2 * frmC p * heightP p)) = true by rw [← Bool.decide_or]; exact decide_eq_true h2]
        rfl
      rw [e2] at hR
      rw [e2, e3]
      exact ⟨rfl, fun h => by omega, fun _ => hR (by decide)⟩
    · have e3 : greatE p = 0 := by
        unfold greatE
        rw [e1, show (decide (256 < frmC p) || decide (4096 < 2 * frmC p * heightP p)) = false by rw [← Bool.decide_or]; exact decide_eq_false h2]
        rfl
      obtain ⟨q1, q2⟩ := rest_eq h (by omega) (by omega) (by omega)
      rw [q1, e3]
      refine ⟨rfl, fun _ => ?_, fun h => absurd rfl h⟩
      rw [q2]
      have hc := wout_cnt (shN_nodup (frmX p) 0 (frmC p).toNat (heightP p).toNat) (netL_nodup p) (fun b hb => net_frame ok hb)
      have hl := sheet_len (frmX p) 0 (c := (frmC p).toNat) (by omega) (heightP p).toNat
      rw [hl] at hc
      have hc2 : (((wout (shN (frmX p) 0 (frmC p).toNat (heightP p).toNat) (netL p)).length + (netL p).length : Nat) : Int) = ((2 * (frmC p).toNat * (heightP p).toNat : Nat) : Int) := by rw [hc]
      push_cast at hc2
      rw [Int.toNat_of_nonneg (by omega), Int.toNat_of_nonneg (by omega)] at hc2
      exact hc2
theorem great_two {w : Int} {h : Nat} {out : Bool} (hp : panE (greatP w h out) = 0) : 2 * ((netL (greatP w h out)).length : Int) = areaS (strips (greatP w h out)) + 2 * (h : Int) := by
  have := netL_two (panE_zero hp)
  rw [great_B] at this
  push_cast at this
  exact this
theorem rowsL_len (p : Pan) : (rowsL p).length = (heightP p).toNat + 1 := by unfold rowsL; simp
end Go.Proofs.YthkjgcldolnjaaaGreatDoor

/- A panel that is widened by one, plain. Conditions: the panel is valid. -/
import Derived.Test.YthkjgcldolnjaaaGreatDoorH45
namespace Go.Proofs.YthkjgcldolnjaaaGreatDoor
open Go.RowKit Go.ChangeMaps
set_option maxHeartbeats 4000000
set_option maxRecDepth 100000

/-! # A panel that is widened by one -/
def shK2 (k : Knot) : Knot := (k.1 + 2, k.2)
theorem stepK_sh2 (right : Bool) (k : Knot) (s : Stp) : stepK right (shK2 k) s = shK2 (stepK right k s) := by
  unfold stepK aft shK2
  simp only
  split
  · rfl
  · split
    · simp only [Prod.mk.injEq, and_true]; omega
    · simp only [Prod.mk.injEq, and_true]; omega
theorem outK_sh2 (right : Bool) : ∀ (l : List Stp) (k : Knot), outK right (shK2 k) l = (outK right k l).map shK2
  | [], _ => rfl
  | s :: r, k => by rw [outK, outK, List.map_cons, stepK_sh2, outK_sh2 right r]
theorem sidS_sh2 (right : Bool) : ∀ (l : List Stp) (k : Knot), sidS right (shK2 k) l = (sidS right k l).map fun x => (x.1 + 2, x.2 + 2)
  | [], _ => rfl
  | s :: r, k => by
    rw [sidS, sidS, List.map_append, stepK_sh2, sidS_sh2 right r]
    congr 1
    split
    · rfl
    · split
      · rfl
      · rfl
theorem wid_from (p : Pan) : fromP (widQ p 1) true = shK2 (fromP p true) := by
  show ((2 * (p.2.1 + 1), 0) : Knot) = (2 * p.2.1 + 2, 0)
  rw [Int.mul_add]
  rfl
theorem wid_left (p : Pan) : outP (widQ p 1) false = outP p false := rfl
theorem wid_right (p : Pan) : outP (widQ p 1) true = (outP p true).map shK2 := by
  unfold outP
  rw [wid_from]
  exact outK_sh2 true _ _
theorem rchGo_sh2 (row : Int) : ∀ (l : List Knot) (y : Int) (a b : Int × Int), a.1 ≤ b.1 → (rchGo row y l a).1 ≤ (rchGo row y (l.map shK2) b).1
  | [], _, _, _, h => h
  | k :: r, y, a, b, h => by
    rw [List.map_cons, rchGo, rchGo, show hitR row y (shK2 k) = hitR row y k from rfl, show (shK2 k).2 = k.2 from rfl]
    refine rchGo_sh2 row r k.2 _ _ ?_
    split
    · unfold minmax shK2
      simp only
      omega
    · exact h
theorem rchI_sh2 (l : List Knot) (row : Int) : (rchI l row).1 ≤ (rchI (l.map shK2) row).1 := by
  cases l with
  | nil => exact Int.le_refl _
  | cons k r => exact rchGo_sh2 row (k :: r) k.2 noneR noneR (Int.le_refl _)
theorem firstI4_zero {a b c d : Int} (h : firstI [a, b, c, d] = 0) : a = 0 ∧ b = 0 ∧ c = 0 ∧ d = 0 := by
  simp only [firstI] at h
  split at h
  · rename_i h1
    split at h
    · rename_i h2
      split at h
      · rename_i h3
        split at h
        · rename_i h4; exact ⟨h1, h2, h3, h4⟩
        · rename_i h4; exact absurd h h4
      · rename_i h3; exact absurd h h3
    · rename_i h2; exact absurd h h2
  · rename_i h1; exact absurd h h1
theorem panE_parts {p : Pan} (h : panE p = 0) : panE0 p = 0 ∧ panE1 p = 0 := by
  unfold panE at h
  split at h
  · rename_i h0; exact absurd h h0
  · rename_i h0
    split at h
    · rename_i h1; exact absurd h h1
    · rename_i h1
      exact ⟨by simpa using h0, by simpa using h1⟩
theorem wid_err {p : Pan} (h : panE p = 0) (hw : p.2.1 ≤ 127) : panE (widQ p 1) = 0 := by
  have ok := panE_zero h
  obtain ⟨h0, h1⟩ := panE_parts h
  obtain ⟨a1, _, a3, a4⟩ := firstI4_zero (show firstI [whenI (!nameR p.1) 8, withinI p.2.1 1 128, sideE p.2.2.1, sideE p.2.2.2] = 0 from h0)
  have hwd := ok.wid
  have h0' : panE0 (widQ p 1) = 0 := by
    unfold panE0
    show firstI [whenI (!nameR p.1) 8, withinI (p.2.1 + 1) 1 128, sideE p.2.2.1, sideE p.2.2.2] = 0
    rw [a1, a3, a4]
    unfold withinI whenI
    rw [decide_eq_false (by omega), decide_eq_false (by omega)]
    rfl
  have h1' : panE1 (widQ p 1) = 0 := h1
  have hc : crossB (outP (widQ p 1) false) (outP (widQ p 1) true) ((heightP (widQ p 1)).toNat + 1) = false := by
    rw [wid_left, wid_right]
    show crossB (outP p false) ((outP p true).map shK2) ((heightP p).toNat + 1) = false
    unfold crossB
    rw [List.any_eq_false]
    intro y hy
    have hh := ok.high
    have hf := free_at ok y (by have := List.mem_range.1 hy; omega)
    have hm := rchI_sh2 (outP p true) (y : Nat)
    simp only [decide_eq_true_eq]
    omega
  unfold panE
  rw [if_neg (by simp [h0']), if_neg (by simp [h1']), hc]
  rfl
/-- its strips -/
def wdS (s : Strp) : Strp := (s.1, s.2.1 + 2, s.2.2.1, s.2.2.2 + 2)
theorem wid_strips {p : Pan} (ok : PanOk p) (ok2 : PanOk (widQ p 1)) : strips (widQ p 1) = (strips p).map wdS := by
  obtain ⟨e1, e2⟩ := sid_lens ok
  obtain ⟨f1, f2⟩ := sid_lens ok2
  have hl : (strips (widQ p 1)).length = (strips p).length := by
    rw [strips_len, strips_len]
    rfl
  have hr : sidP (widQ p 1) true = (sidP p true).map fun x => (x.1 + 2, x.2 + 2) := by
    unfold sidP
    rw [wid_from]
    exact sidS_sh2 true _ _
  refine List.ext_getElem (by rw [hl, List.length_map]) fun i h1 h2 => ?_
  rw [List.length_map] at h2
  have q1 : i < (sidP p false).length := by omega
  have q2 : i < (sidP p true).length := by omega
  have q3 : i < (sidP (widQ p 1) true).length := by omega
  rw [strips_get i h1 q1 q3, List.getElem_map, strips_get i h2 q1 q2]
  have e : (sidP (widQ p 1) true)[i] = ((sidP p true)[i].1 + 2, (sidP p true)[i].2 + 2) := by
    simp only [hr, List.getElem_map]
  rw [e]
  rfl
theorem area_wd : ∀ l : List Strp, areaS (l.map wdS) = areaS l + 4 * (l.length : Int)
  | [] => rfl
  | s :: r => by
    have ih := area_wd r
    unfold areaS at ih ⊢
    rw [List.map_cons, List.map_cons, List.map_cons, List.sum_cons, List.sum_cons, ih, List.length_cons]
    unfold wdS
    simp only
    push_cast
    omega
theorem wid_area {p : Pan} (h : panE p = 0) (hw : p.2.1 ≤ 127) : areaS (strips (widQ p 1)) = areaS (strips p) + 4 * heightP p := by
  have ok := panE_zero h
  have hh := ok.high
  rw [wid_strips ok (panE_zero (wid_err h hw)), area_wd, strips_len]
  omega
theorem wid_len {p : Pan} (h : panE p = 0) (hw : p.2.1 ≤ 127) : ((netL (widQ p 1)).length : Int) = (netL p).length + 2 * heightP p := by
  have ok := panE_zero h
  have t1 := netL_two ok
  have t2 := netL_two (panE_zero (wid_err h hw))
  rw [wid_area h hw] at t2
  have e : ((stpL (widQ p 1).2.2.1 ++ stpL (widQ p 1).2.2.2).map (·.1)).count 66 = ((stpL p.2.2.1 ++ stpL p.2.2.2).map (·.1)).count 66 := rfl
  rw [e] at t2
  omega
/-! ## which bars a strip has -/
theorem barsX_put {s : Strp} {x y c : Int} (hp : (x + y) % 2 = 0) (hc : c = -1 ∨ c = 1) (h1 : s.2.2.1 ≤ x + c) (h2 : x + c ≤ s.2.2.2) : (x, y, c) ∈ barsX s y x := by
  rw [barsX_even hp]
  unfold barAts barAt
  rcases hc with rfl | rfl
  · rw [if_pos (show s.2.2.1 ≤ x + -1 ∧ x + -1 ≤ s.2.2.2 from ⟨h1, h2⟩)]
    simp
  · rw [if_pos (show s.2.2.1 ≤ x + 1 ∧ x + 1 ≤ s.2.2.2 from ⟨h1, h2⟩)]
    simp
theorem barsN_put {s : Strp} {y : Int} {b : Bar} {m : Nat} (hb : b ∈ barsX s y (s.1 + (m : Int))) : ∀ n, m < n → b ∈ barsN s y n
  | 0, h => by omega
  | n + 1, h => by
    rw [barsN, List.mem_append]
    by_cases e : m = n
    · subst e; exact .inr hb
    · exact .inl (barsN_put hb n (by omega))
theorem barsS_put {s : Strp} {x y c : Int} (h1 : s.1 ≤ x) (h2 : x ≤ s.2.1) (hp : (x + y) % 2 = 0) (hc : c = -1 ∨ c = 1) (h3 : s.2.2.1 ≤ x + c) (h4 : x + c ≤ s.2.2.2) : (x, y, c) ∈ barsS s y := by
  unfold barsS
  refine barsN_put (m := (x - s.1).toNat) ?_ _ (by omega)
  rw [show s.1 + (((x - s.1).toNat : Nat) : Int) = x by omega]
  exact barsX_put hp hc h3 h4
theorem wid_sub {p : Pan} (h : panE p = 0) (hw : p.2.1 ≤ 127) {b : Bar} (hb : b ∈ netL p) : b ∈ netL (widQ p 1) := by
  have ok := panE_zero h
  have ok2 := panE_zero (wid_err h hw)
  have hs := wid_strips ok ok2
  obtain ⟨k, hk, hm⟩ := netN_mem _ hb
  have e : (strips p).getD k (0, 0, 0, 0) = (strips p)[k] := by
    rw [List.getD_eq_getElem?_getD, List.getElem?_eq_getElem hk, Option.getD_some]
  rw [e] at hm
  obtain ⟨h1, h2, h3, h4, h5, h6, h7⟩ := barsS_mem hm
  have hk2 : k < (strips (widQ p 1)).length := by rw [hs, List.length_map]; exact hk
  have e2 : (strips (widQ p 1)).getD k (0, 0, 0, 0) = wdS (strips p)[k] := by
    rw [hs, List.getD_eq_getElem?_getD, List.getElem?_eq_getElem (by simpa using hk), Option.getD_some, List.getElem_map]
  refine netN_in (k := k) ?_ _ hk2
  rw [e2]
  obtain ⟨x, y, c⟩ := b
  simp only at h1 h2 h3 h4 h5 h6 h7
  subst h1
  refine barsS_put ?_ ?_ h5 h4 ?_ ?_
  · exact h2
  · show x ≤ (strips p)[k].2.1 + 2
    omega
  · exact h6
  · show x + c ≤ (strips p)[k].2.2.2 + 2
    omega
theorem wid_meet {p : Pan} (h : panE p = 0) (hw : p.2.1 ≤ 127) : meetL (netL (widQ p 1)) (netL p) = netL p :=
  sortedB_eq ((netN_asc _ _).filter _) (netN_asc _ _) fun x => by
    rw [meet_mem]
    exact ⟨fun h => h.2, fun hx => ⟨wid_sub h hw hx, hx⟩⟩
theorem wid_back (p : Pan) : widQ (widQ p 1) (-1) = p := by
  obtain ⟨a, b, c, d⟩ := p
  show (a, b + 1 + -1, c, d) = (a, b, c, d)
  rw [Int.add_assoc]
  simp
/-- what PanelWide looks at -/
structure WideOk (p : Pan) : Prop where
  err : panE (widQ p 1) = 0
  one : widE p 1 = 0
  two : widE (widQ p 1) (-1) = 0
  net : netErr p = 0
  net2 : netErr (widQ p 1) = 0
  chk : netE (netL p) = 0
  chk2 : netE (netL (widQ p 1)) = 0
  len : ((netL (widQ p 1)).length : Int) = (netL p).length + 2 * heightP p
  area : areaS (strips (widQ p 1)) = areaS (strips p) + 4 * heightP p
  put : putE meetK (netL (widQ p 1)) (netL p) = 0
  putl : putL meetK (netL (widQ p 1)) (netL p) = netL p
theorem wide_ok {p : Pan} (hs : shortP p 16 = true) (h : panE p = 0) : WideOk p := by
  have ok := panE_zero h
  have sm := shortP_small (n := 16) hs ok
  have hw : p.2.1 ≤ 127 := by have := sm.wid; omega
  have he := wid_err h hw
  have hlen := wid_len h hw
  have hb := sm.box.bars ok
  have hh := sm.high
  have hh1 := ok.high
  have e : (16 + 2 * ((16 : Nat) : Int) - -(16 + 2 * ((16 : Nat) : Int))) = 96 := rfl
  rw [e] at hb
  have hl2 : (netL (widQ p 1)).length ≤ 4096 := by omega
  have c1 := netL_netE ok sm.few
  have c2 := netL_netE (panE_zero he) hl2
  have hM : mergeL meetK (netL (widQ p 1)) (netL p) = netL p := (merge_meet (netN_asc _ _) (netN_asc _ _)).trans (wid_meet h hw)
  have hput : putE meetK (netL (widQ p 1)) (netL p) = 0 := by
    unfold putE twoE
    rw [c1, c2, if_neg (by simp [firstI]), hM, if_neg]
    have := sm.few
    omega
  refine ⟨he, ?_, ?_, netErr_nil h sm.few, netErr_nil he hl2, c1, c2, hlen, wid_area h hw, hput, ?_⟩
  · unfold widE
    rw [h]
    rfl
  · unfold widE
    rw [he]
    rfl
  · unfold putL
    rw [if_pos hput, hM]
end Go.Proofs.YthkjgcldolnjaaaGreatDoor

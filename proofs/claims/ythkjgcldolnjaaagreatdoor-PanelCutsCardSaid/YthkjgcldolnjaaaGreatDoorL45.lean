/- Short panels are small; their frames and rests, plain. Conditions: none. -/
import Derived.Test.YthkjgcldolnjaaaGreatDoorL43
import Derived.Test.YthkjgcldolnjaaaGreatDoorL40
import Derived.Test.YthkjgcldolnjaaaGreatDoorL32
import Derived.Test.YthkjgcldolnjaaaGreatDoorL44
namespace Go.Proofs.YthkjgcldolnjaaaGreatDoor
open Go.RowKit Go.ChangeMaps
set_option maxHeartbeats 4000000
set_option maxRecDepth 100000

/-! # Short panels are small; their frames -/
theorem shLet1_len {e : Edg} (h : edgE e = 0) : shLet1 e = ((edgS e).length : Int) := by
  obtain ⟨_, _, _, h4, h5⟩ := edgE_zero h
  unfold shLet1
  rw [if_pos (by omega), edgS_len]
  push_cast
  rw [Int.toNat_of_nonneg (by omega), Int.mul_comm]
theorem shLet_len : ∀ (l : List Edg), (∀ e ∈ l, edgE e = 0) → shLet l = ((stpL l).length : Int)
  | [], _ => rfl
  | e :: r, h => by
    have ih := shLet_len r fun x hx => h x (List.mem_cons_of_mem _ hx)
    unfold shLet at ih ⊢
    rw [List.map_cons, List.sum_cons, ih, shLet1_len (h e (List.mem_cons_self ..)), stpL_cons, List.length_append]
    push_cast
    rfl
theorem shortS_len {l : List Edg} {n : Int} (h : shortS l n = true) (ok : SideOk l) : ((stpL l).length : Int) ≤ n := by
  have hf := ok.few
  unfold shortS at h
  rw [Bool.and_eq_true] at h
  have h := h.2
  rw [Bool.and_eq_true, Bool.or_eq_true] at h
  rcases h.2 with h | h
  · rw [← shLet_len l ok.ok]
    exact of_decide_eq_true h
  · have := of_decide_eq_true h
    omega
/-- a short panel is not wide, and has few letters -/
structure Small (p : Pan) (n : Nat) : Prop where
  ok : PanOk p
  wid : p.2.1 ≤ 8
  let_ : ∀ right, (stpL (sideP p right)).length ≤ n
theorem Small.near {p : Pan} {n : Nat} (h : Small p n) (right : Bool) : ∀ k ∈ outP p right, -(16 + 2 * (n : Int)) ≤ k.1 ∧ k.1 ≤ 16 + 2 * (n : Int) := by
  intro k hk
  obtain ⟨i, hi, rfl⟩ := List.getElem_of_mem hk
  unfold outP at hi ⊢
  rw [outK_get]
  have hw := h.wid
  have hw1 := h.ok.wid
  have h0 : -16 ≤ (fromP p right).1 ∧ (fromP p right).1 ≤ 16 ∧ 0 ≤ (fromP p right).2 ∧ (fromP p right).2 ≤ 16 := by
    unfold fromP
    split <;> simp only <;> omega
  have := end_near (right := right) (n := 16) ((stpL (sideP p right)).take i) h0
  have hl : (((stpL (sideP p right)).take i).length : Int) ≤ n := by
    have := h.let_ right
    simp
    omega
  omega
theorem Small.high {p : Pan} {n : Nat} (h : Small p n) : heightP p ≤ 2 * (n : Int) := by
  have h1 := (heightP_range p).2
  have h2 : (stpL p.2.2.1).length ≤ n := h.let_ false
  omega
/-- the places of a panel lie from m to M -/
structure Box (p : Pan) (m M : Int) : Prop where
  left : ∀ k ∈ outP p false, m ≤ k.1 ∧ k.1 ≤ M
  right : ∀ k ∈ outP p true, m ≤ k.1 ∧ k.1 ≤ M
theorem Small.box {p : Pan} {n : Nat} (h : Small p n) : Box p (-(16 + 2 * (n : Int))) (16 + 2 * (n : Int)) := ⟨h.near false, h.near true⟩
theorem PanOk.box {p : Pan} (h : PanOk p) : Box p (-4096) 4096 := ⟨out_near p false h.wid (h.side false).1, out_near p true h.wid (h.side true).1⟩
theorem Box.sid {p : Pan} {m M : Int} (h : Box p m M) (right : Bool) (i : Nat) (hi : i < (sidP p right).length) : (m ≤ (sidP p right)[i].1 ∧ (sidP p right)[i].1 ≤ M) ∧ m ≤ (sidP p right)[i].2 ∧ (sidP p right)[i].2 ≤ M := by
  obtain ⟨h1, h2⟩ := sid_hits right (stpL (sideP p right)) (fromP p right) i hi
  obtain ⟨k1, m1, e1⟩ := hits_mem h1
  obtain ⟨k2, m2, e2⟩ := hits_mem h2
  have hb : ∀ k ∈ outP p right, m ≤ k.1 ∧ k.1 ≤ M := by
    cases right
    · exact h.left
    · exact h.right
  have n1 := hb k1 m1
  have n2 := hb k2 m2
  rw [e1] at n1
  rw [e2] at n2
  exact ⟨n1, n2⟩
/-- a strip of a panel in a box -/
theorem Box.strip {p : Pan} {m M : Int} (h : Box p m M) (ok : PanOk p) (i : Nat) (hi : i < (strips p).length) : (m ≤ (strips p)[i].1 ∧ (strips p)[i].1 ≤ M) ∧ (m ≤ (strips p)[i].2.1 ∧ (strips p)[i].2.1 ≤ M) ∧ (m ≤ (strips p)[i].2.2.1 ∧ (strips p)[i].2.2.1 ≤ M) ∧ m ≤ (strips p)[i].2.2.2 ∧ (strips p)[i].2.2.2 ≤ M := by
  obtain ⟨e1, e2⟩ := sid_lens ok
  have n1 := h.sid false i (by omega)
  have n2 := h.sid true i (by omega)
  rw [strips_get i hi (by omega) (by omega)]
  exact ⟨n1.1, n2.1, n1.2, n2.2⟩
theorem Box.netN {p : Pan} {m M : Int} (h : Box p m M) (ok : PanOk p) : ∀ n : Nat, n ≤ (strips p).length → ((netN (strips p) n).length : Int) ≤ (M - m) * (n : Int)
  | 0, _ => by simp [Go.Proofs.YthkjgcldolnjaaaGreatDoor.netN]
  | n + 1, hn => by
    have ih := h.netN ok n (by omega)
    have hs := barsS_cnt (strips_ok ok n (by omega))
    have hb := h.strip ok n (by omega)
    have e : (strips p).getD n (0, 0, 0, 0) = (strips p)[n]'(by omega) := by
      rw [List.getD_eq_getElem?_getD, List.getElem?_eq_getElem (show n < (strips p).length by omega), Option.getD_some]
    rw [Go.Proofs.YthkjgcldolnjaaaGreatDoor.netN, List.length_append, e]
    push_cast
    rw [hs, Int.mul_add, Int.mul_one]
    omega
theorem Box.bars {p : Pan} {m M : Int} (h : Box p m M) (ok : PanOk p) : ((netL p).length : Int) ≤ (M - m) * heightP p := by
  have h1 := h.netN ok (strips p).length (Nat.le_refl _)
  have h2 := ok.high
  rw [strips_len] at h1
  rw [show (((heightP p).toNat : Nat) : Int) = heightP p by omega] at h1
  unfold netL
  rw [strips_len]
  exact h1
theorem Small.few {p : Pan} (h : Small p 16) : (netL p).length ≤ 4096 := by
  have h1 := h.box.bars h.ok
  have h2 := h.high
  have h3 := h.ok.high
  have e : (16 + 2 * ((16 : Nat) : Int) - -(16 + 2 * ((16 : Nat) : Int))) = 96 := rfl
  rw [e] at h1
  omega
/-! ## the frame -/
theorem lmF_go : ∀ (l : List Knot) (a : Int × Int), lmF l a = (l.map (·.1)).foldl minmax a
  | [], _ => rfl
  | k :: r, a => lmF_go r (minmax a k.1)
theorem lmP_mem {p : Pan} {k : Knot} (hk : k ∈ allP p) : (lmP p).1 ≤ k.1 ∧ k.1 ≤ (lmP p).2 := by
  unfold lmP
  rw [lmF_go]
  exact (mm_fold ((allP p).map (·.1)) ((fromP p false).1, (fromP p false).1)).1 _ (List.mem_map.2 ⟨k, hk, rfl⟩)
theorem from_mem (p : Pan) (right : Bool) : fromP p right ∈ outP p right := by
  obtain ⟨r, hr⟩ := outK_cons right (fromP p right) (stpL (sideP p right))
  unfold outP
  rw [hr]
  exact List.mem_cons_self ..
theorem lmP_wide {p : Pan} (ok : PanOk p) : (lmP p).1 ≤ 0 ∧ 2 ≤ (lmP p).2 := by
  have h1 := lmP_mem (List.mem_append.2 (.inl (from_mem p false)) : fromP p false ∈ allP p)
  have h2 := lmP_mem (List.mem_append.2 (.inr (from_mem p true)) : fromP p true ∈ allP p)
  have hw := ok.wid
  have e1 : (fromP p false).1 = 0 := rfl
  have e2 : (fromP p true).1 = 2 * p.2.1 := rfl
  omega
theorem lmP_box {p : Pan} {m M : Int} (h : Box p m M) : m ≤ (lmP p).1 ∧ (lmP p).2 ≤ M := by
  have h0 := h.left _ (from_mem p false)
  have e1 : (fromP p false).1 = 0 := rfl
  have hb : ∀ k ∈ allP p, m ≤ k.1 ∧ k.1 ≤ M := fun k hk => by
    rcases List.mem_append.1 hk with hk | hk
    · exact h.left k hk
    · exact h.right k hk
  obtain ⟨_, _, _, h4, h5⟩ := mm_fold ((allP p).map (·.1)) ((fromP p false).1, (fromP p false).1)
  rw [← lmF_go] at h4 h5
  have e2 : lmP p = lmF (allP p) ((fromP p false).1, (fromP p false).1) := rfl
  rw [← e2] at h4 h5
  rw [e1] at h0 h4 h5
  constructor
  · rcases h4 with h4 | h4
    · rw [h4]; exact h0.1
    · obtain ⟨k, hk, e⟩ := List.mem_map.1 h4
      rw [← e]
      exact (hb k hk).1
  · rcases h5 with h5 | h5
    · rw [h5]; exact h0.2
    · obtain ⟨k, hk, e⟩ := List.mem_map.1 h5
      rw [← e]
      exact (hb k hk).2
/-- the frame: even, from the least place, and not beyond the greatest one by more than one -/
theorem frm_at {p : Pan} (ok : PanOk p) : frmX p % 2 = 0 ∧ frmX p ≤ (lmP p).1 ∧ (lmP p).1 ≤ frmX p + 1 ∧ (lmP p).2 ≤ frmX p + 2 * frmC p ∧ frmX p + 2 * frmC p ≤ (lmP p).2 + 1 ∧ 1 ≤ frmC p := by
  have hw := lmP_wide ok
  have hC : frmC p = ((lmP p).2 - frmX p + 1) / 2 := rfl
  have hX : frmX p % 2 = 0 ∧ frmX p ≤ (lmP p).1 ∧ (lmP p).1 ≤ frmX p + 1 := by
    unfold frmX
    split <;> omega
  omega
theorem PanOk.frame {p : Pan} (ok : PanOk p) : -5000 ≤ frmX p ∧ frmX p ≤ 0 ∧ 1 ≤ frmC p ∧ frmC p ≤ 5000 ∧ frmX p + 2 * frmC p ≤ 5000 := by
  have h1 := frm_at ok
  have h2 := lmP_box ok.box
  have h3 := lmP_wide ok
  omega
theorem Small.frame {p : Pan} (h : Small p 16) : frmC p ≤ 256 ∧ 2 * frmC p * heightP p ≤ 4096 := by
  have h1 := frm_at h.ok
  have h2 := lmP_box h.box
  have h3 := h.high
  have h4 := h.ok.high
  have hc : frmC p ≤ 49 := by omega
  refine ⟨by omega, ?_⟩
  have := Int.mul_le_mul (show 2 * frmC p ≤ 98 by omega) (show heightP p ≤ 32 by omega) (by omega) (by omega)
  omega
end Go.Proofs.YthkjgcldolnjaaaGreatDoor

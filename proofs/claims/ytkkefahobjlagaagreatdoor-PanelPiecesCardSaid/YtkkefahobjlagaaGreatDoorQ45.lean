/- Short panels are small; their frames and rests, plain. Conditions: none. -/
import Derived.Test.YtkkefahobjlagaaGreatDoorQ43
import Derived.Test.YtkkefahobjlagaaGreatDoorQ40
import Derived.Test.YtkkefahobjlagaaGreatDoorQ32
import Derived.Test.YtkkefahobjlagaaGreatDoorQ44
import Derived.Test.YtkkefahobjlagaaGreatDoorQ42
import Derived.Test.YtkkefahobjlagaaGreatDoorQ07
namespace Go.Proofs.YtkkefahobjlagaaGreatDoor
open Go.RowKit Go.ChangeMaps
set_option maxHeartbeats 4000000
set_option maxRecDepth 100000
theorem shLet1_len {e : Edg} (h : edgE e = 0) : shLet1 e = ((edgS e).length : Int) := by
 obtain ⟨_, _, _, h4, h5⟩ := edgE_zero h
 unfold shLet1
 rw [if_pos (by omega), edgS_len]
 push_cast
 rw [Int.toNat_of_nonneg (by omega), Int.mul_comm]
theorem shLet_len : ∀ (l : List Edg), (∀ e ∈ l, edgE e = 0) → shLet l = ((stpL l).length : Int)
 | [], _ => rfl
 | e :: r, h => by
  have ih := shLet_len r fun x hx => h x (List.mem_cons_of_mem _ hx)
  unfold shLet at ih ⊢
  rw [List.map_cons, List.sum_cons, ih, shLet1_len (h e (List.mem_cons_self ..)), stpL_cons, List.length_append]
  push_cast
  rfl
theorem shortS_len {l : List Edg} {n : Int} (h : shortS l n = true) (ok : SideOk l) : ((stpL l).length : Int) ≤ n := by
 have hf := ok.few
 unfold shortS at h
 rw [Bool.and_eq_true] at h
 have h := h.2
 rw [Bool.and_eq_true, Bool.or_eq_true] at h
 rcases h.2 with h | h
 ·rw [← shLet_len l ok.ok]
  exact of_decide_eq_true h
 ·have := of_decide_eq_true h
  omega
structure Small (p : Pan) (n : Nat) : Prop where
 ok : PanOk p
 wid : p.2.1 ≤ 8
 let_ : ∀ right, (stpL (sideP p right)).length ≤ n
theorem shortP_small {p : Pan} {n : Nat} (h : shortP p n = true) (ok : PanOk p) : Small p n := by
 have hw := ok.wid
 unfold shortP at h
 rw [Bool.and_eq_true, Bool.and_eq_true, Bool.and_eq_true, Bool.or_eq_true] at h
 obtain ⟨_, h2, h3, h4⟩ := h
 have h3 := shortS_len h3 ok.left
 have h4 := shortS_len h4 ok.right
 refine ⟨ok, ?_, fun right => ?_⟩
 ·rcases h2 with h | h
  ·exact of_decide_eq_true h
  ·have := of_decide_eq_true h
   omega
 ·cases right
  ·show (stpL p.2.2.1).length ≤ n
   omega
  ·show (stpL p.2.2.2).length ≤ n
   omega
theorem Small.near {p : Pan} {n : Nat} (h : Small p n) (right : Bool) : ∀ k ∈ outP p right, -(16 + 2 * (n : Int)) ≤ k.1 ∧ k.1 ≤ 16 + 2 * (n : Int) := by
 intro k hk
 obtain ⟨i, hi, rfl⟩ := List.getElem_of_mem hk
 unfold outP at hi ⊢
 rw [outK_get]
 have hw := h.wid
 have hw1 := h.ok.wid
 have h0 : -16 ≤ (fromP p right).1 ∧ (fromP p right).1 ≤ 16 ∧ 0 ≤ (fromP p right).2 ∧ (fromP p right).2 ≤ 16 := by
  unfold fromP
  split <;> simp only <;> omega
 have := end_near (right := right) (n := 16) ((stpL (sideP p right)).take i) h0
 have hl : (((stpL (sideP p right)).take i).length : Int) ≤ n := by
  have := h.let_ right
  simp
  omega
 omega
theorem Small.high {p : Pan} {n : Nat} (h : Small p n) : heightP p ≤ 2 * (n : Int) := by
 have h1 := (heightP_range p).2
 have h2 : (stpL p.2.2.1).length ≤ n := h.let_ false
 omega
structure Box (p : Pan) (m M : Int) : Prop where
 left : ∀ k ∈ outP p false, m ≤ k.1 ∧ k.1 ≤ M
 right : ∀ k ∈ outP p true, m ≤ k.1 ∧ k.1 ≤ M
theorem Small.box {p : Pan} {n : Nat} (h : Small p n) : Box p (-(16 + 2 * (n : Int))) (16 + 2 * (n : Int)) := ⟨h.near false, h.near true⟩
theorem Box.sid {p : Pan} {m M : Int} (h : Box p m M) (right : Bool) (i : Nat) (hi : i < (sidP p right).length) : (m ≤ (sidP p right)[i].1 ∧ (sidP p right)[i].1 ≤ M) ∧ m ≤ (sidP p right)[i].2 ∧ (sidP p right)[i].2 ≤ M := by
 obtain ⟨h1, h2⟩ := sid_hits right (stpL (sideP p right)) (fromP p right) i hi
 obtain ⟨k1, m1, e1⟩ := hits_mem h1
 obtain ⟨k2, m2, e2⟩ := hits_mem h2
 have hb : ∀ k ∈ outP p right, m ≤ k.1 ∧ k.1 ≤ M := by
  cases right
  ·exact h.left
  ·exact h.right
 have n1 := hb k1 m1
 have n2 := hb k2 m2
 rw [e1] at n1
 rw [e2] at n2
 exact ⟨n1, n2⟩
theorem Box.strip {p : Pan} {m M : Int} (h : Box p m M) (ok : PanOk p) (i : Nat) (hi : i < (strips p).length) : (m ≤ (strips p)[i].1 ∧ (strips p)[i].1 ≤ M) ∧ (m ≤ (strips p)[i].2.1 ∧ (strips p)[i].2.1 ≤ M) ∧ (m ≤ (strips p)[i].2.2.1 ∧ (strips p)[i].2.2.1 ≤ M) ∧ m ≤ (strips p)[i].2.2.2 ∧ (strips p)[i].2.2.2 ≤ M := by
 obtain ⟨e1, e2⟩ := sid_lens ok
 have n1 := h.sid false i (by omega)
 have n2 := h.sid true i (by omega)
 rw [strips_get i hi (by omega) (by omega)]
 exact ⟨n1.1, n2.1, n1.2, n2.2⟩
theorem Box.netN {p : Pan} {m M : Int} (h : Box p m M) (ok : PanOk p) : ∀ n : Nat, n ≤ (strips p).length → ((netN (strips p) n).length : Int) ≤ (M - m) * (n : Int)
 | 0, _ => by simp [Go.Proofs.YtkkefahobjlagaaGreatDoor.netN]
 | n + 1, hn => by
  have ih := h.netN ok n (by omega)
  have hs := barsS_cnt (strips_ok ok n (by omega))
  have hb := h.strip ok n (by omega)
  have e : (strips p).getD n (0, 0, 0, 0) = (strips p)[n]'(by omega) := by
   rw [List.getD_eq_getElem?_getD, List.getElem?_eq_getElem (show n < (strips p).length by omega), Option.getD_some]
  rw [Go.Proofs.YtkkefahobjlagaaGreatDoor.netN, List.length_append, e]
  push_cast
  rw [hs, Int.mul_add, Int.mul_one]
  omega
theorem Box.bars {p : Pan} {m M : Int} (h : Box p m M) (ok : PanOk p) : ((netL p).length : Int) ≤ (M - m) * heightP p := by
 have h1 := h.netN ok (strips p).length (Nat.le_refl _)
 have h2 := ok.high
 rw [strips_len] at h1
 rw [show (((heightP p).toNat : Nat) : Int) = heightP p by omega] at h1
 unfold netL
 rw [strips_len]
 exact h1
theorem netErr_nil {p : Pan} (ok : panE p = 0) (h : (netL p).length ≤ 4096) : netErr p = 0 := by
 unfold netErr whenI
 rw [if_pos ok, if_neg (by simp; omega)]
theorem Small.few {p : Pan} (h : Small p 16) : (netL p).length ≤ 4096 := by
 have h1 := h.box.bars h.ok
 have h2 := h.high
 have h3 := h.ok.high
 have e : (16 + 2 * ((16 : Nat) : Int) - -(16 + 2 * ((16 : Nat) : Int))) = 96 := rfl
 rw [e] at h1
 omega
end Go.Proofs.YtkkefahobjlagaaGreatDoor

/- The law's helper net; the reference's Net, walked. Conditions: the panel is valid. -/
import Derived.Test.YtpcgeihemkhkjaaGreatDoorR21
import Derived.Test.YtpcgeihemkhkjaaGreatDoorR43
import Derived.Test.YtpcgeihemkhkjaaGreatDoorR04
import Derived.Test.YtpcgeihemkhkjaaGreatDoorR46
import Derived.Test.YtpcgeihemkhkjaaGreatDoorR40
import Derived.Test.YtpcgeihemkhkjaaGreatDoorR14
import Derived.Test.YtpcgeihemkhkjaaGreatDoorR47
import Derived.Test.YtpcgeihemkhkjaaGreatDoorR44
import Derived.Test.YtpcgeihemkhkjaaGreatDoorR35
import Derived.Test.YtpcgeihemkhkjaaGreatDoorR12
import Derived.Test.YtpcgeihemkhkjaaGreatDoorR38
import Derived.Test.YtpcgeihemkhkjaaGreatDoorR05
namespace Go.Proofs.YtpcgeihemkhkjaaGreatDoor
open Go.RowKit Go.ChangeMaps
set_option maxHeartbeats 4000000
set_option maxRecDepth 100000
attribute [local go_sem] Oper.semAt_some
def ldB (l : List Plc) (E e : Int) (m : List Plc) : Bool := if e ≠ 0 then (decide (l = []) && E == e) else (E == 0 && decide (l = m))
theorem l5laid_any {A B : Option Addr} {c d : Nat} (l m : List Plc) (E e : Int) (w : World) (h : Rd plc 3 w A l) (h' : Rd plc 3 w B m) (hl : l.length ≤ 100000) (hm : m.length ≤ 100000) :
  Calls Tryz.prog 27 #[.slice A l.length c, .int .i64 E, .int .i64 e, .slice B m.length d] w (RV w (.bool (ldB l E e m))) := by
 by_cases he : e = 0
 ·subst he
  by_cases hE : E = 0
  ·subst hE
   have HN : Hid (ldB l 0 0 m = decide (l = m)) := by unfold Hid ldB; simp
   have cP := Zr7 l A c w h hl
   have cS := fun (A' : Option Addr) (c' : Nat) W' (hr : Rd plc 3 W' A' l) (hb : Below w.heap.size w W') => Zr5 l m A' B c' d W' hr (h'.below hb) hl hm
   obtain ⟨q, hq⟩ : ∃ z, decide (l = m) = z := ⟨_, rfl⟩
   rw [hq] at HN cS; clear hq h h'; go_enter Tryz.func27, Tryz.ntmps27
   go_wp2_with fail; refine (cP).mono ?_
   rintro e w1 ⟨v1, rfl, hO1, hb1⟩; obtain ⟨A1, c1, rfl⟩ := hO1.shape; obtain ⟨_, _, he1, _, _, r1⟩ := hO1.rd Zix
   obtain ⟨rfl, rfl⟩ : A1 = _ ∧ c1 = _ := by simpa using he1
   go_wp2_with fail; refine (cS _ _ _ r1 hb1).mono ?_
   rintro e w2 ⟨rfl, hb2⟩; go_wp2; go_ret; exact ⟨by rw [HN.out]; rfl, by (repeat first|exact J0|assumption|(apply J1;assumption)|apply J2|apply J3|apply J4)⟩
  ·have HN : Hid (ldB l E 0 m = false) := by unfold Hid ldB; simp [hE]
   have hE' : (E == 0) = false := by simp [hE]
   clear hE; go_enter Tryz.func27, Tryz.ntmps27
   go_wp2; go_ret; exact ⟨by rw [HN.out]; rfl, by (repeat first|exact J0|assumption|(apply J1;assumption)|apply J2|apply J3|apply J4)⟩
 ·have he' : (e != 0) = true := by simp [he]
  cases l with
  | nil =>
   have HN : Hid (ldB [] E e m = (E == e)) := by unfold Hid ldB; rw [if_pos he]; simp
   clear he; go_enter Tryz.func27, Tryz.ntmps27
   go_wp2; go_ret; exact ⟨by rw [HN.out]; rfl, by (repeat first|exact J0|assumption|(apply J1;assumption)|apply J2|apply J3|apply J4)⟩
  | cons b l =>
   have HN : Hid (ldB (b :: l) E e m = false) := by unfold Hid ldB; rw [if_pos he]; simp
   have hlz : ((((b :: l).length : Nat) : Int) == 0) = false := beq_false_of_ne (by simp; omega)
   obtain ⟨n, hn⟩ : ∃ n, (b :: l).length = n := ⟨_, rfl⟩
   rw [hn] at hlz ⊢; clear he hn h h' hl; go_enter Tryz.func27, Tryz.ntmps27
   go_wp2; go_ret; exact ⟨by rw [HN.out]; rfl, by (repeat first|exact J0|assumption|(apply J1;assumption)|apply J2|apply J3|apply J4)⟩
theorem ldB_none {E : Int} (h : E ≠ 0) : ldB [] E E [] = true := by
 unfold ldB
 rw [if_pos h]
 simp
theorem ldB_same (m : List Plc) : ldB m 0 0 m = true := by
 unfold ldB
 rw [if_neg (by simp)]
 simp
theorem Zts (d : Nat) (a0 b0 : Int) (a1 b1 : Int) (w : World) : (Op.equalIn (d + 2) 35 (.agg #[.int .i64 a0, .int .i64 a1]) (.agg #[.int .i64 b0, .int .i64 b1])).run Tryz.prog w = .ok (decide (a0 = b0) && decide (a1 = b1)) w := by
 rw [run_equalIn_struct w (d + 1) 35 _ _ (by kernel_rfl) (by kernel_rfl)]
 by_cases h0 : a0 = b0 <;> by_cases h1 : a1 = b1 <;> simp [go_sem, h0, h1]
theorem eq_bds (a0 b0 : Int) (a1 b1 : Int) (w : World) : (binOp .eql 35 (.agg #[.int .i64 a0, .int .i64 a1]) (.agg #[.int .i64 b0, .int .i64 b1])).run Tryz.prog w = .ok (.bool ((decide (a0 = b0) && decide (a1 = b1)))) w := by
 simp only [binOp]
 simp [Op.equal, Op.maxDepth, Zts 9998]
theorem Ztt (d : Nat) (a0 b0 : Int) (a1 b1 : Int) (w : World) : (Op.equalIn (d + 2) 79 (.agg #[.int .i64 a0, .int .i64 a1]) (.agg #[.int .i64 b0, .int .i64 b1])).run Tryz.prog w = .ok (decide (a0 = b0) && decide (a1 = b1)) w := by
 rw [run_equalIn_struct w (d + 1) 79 _ _ (by kernel_rfl) (by kernel_rfl)]
 by_cases h0 : a0 = b0 <;> by_cases h1 : a1 = b1 <;> simp [go_sem, h0, h1]
theorem neq_rbds (a0 b0 : Int) (a1 b1 : Int) (w : World) : (binOp .neq 79 (.agg #[.int .i64 a0, .int .i64 a1]) (.agg #[.int .i64 b0, .int .i64 b1])).run Tryz.prog w = .ok (.bool (!(decide (a0 = b0) && decide (a1 = b1)))) w := by
 simp only [binOp]
 simp [Op.equal, Op.maxDepth, Ztt 9998]
end Go.Proofs.YtpcgeihemkhkjaaGreatDoor

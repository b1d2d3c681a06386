/- The cycles of a net, plain. Conditions: the net is in its order. -/
import Derived.Test.YtkkefahobjlagaaGreatDoorN43
import Derived.Test.YtkkefahobjlagaaGreatDoorN29
import Derived.Test.YtkkefahobjlagaaGreatDoorN26
import Derived.Test.YtkkefahobjlagaaGreatDoorN37
namespace Go.Proofs.YtkkefahobjlagaaGreatDoor
open Go.RowKit Go.ChangeMaps
set_option maxHeartbeats 4000000
set_option maxRecDepth 100000
theorem shB_lt (d : Knot) {a b : Bar} : bltP (shB d a) (shB d b) ↔ bltP a b := by
 rw [bltP_iff, bltP_iff]; unfold shB; simp only; omega
theorem shift_sorted {l : List Bar} (hs : l.Pairwise bltP) (d : Knot) : (l.map (shB d)).Pairwise bltP := by
 rw [List.pairwise_map]; exact hs.imp fun h => (shB_lt d).2 h
theorem farB_no {n : Int} (h : -100000 ≤ n ∧ n ≤ 100000) : farB n = false := by
 unfold farB
 rw [decide_eq_false (by omega), decide_eq_false (by omega)]
 rfl
theorem knotE_yes {x y : Int} (hx : -100000 ≤ x ∧ x ≤ 100000) (hy : -100000 ≤ y ∧ y ≤ 100000) (hp : (x + y) % 2 = 0) : knotE x y = 0 := by
 unfold knotE
 rw [farB_no hx, farB_no hy, if_neg (by simp), if_pos hp]
variable {x y : Int} {c r : Nat}
end Go.Proofs.YtkkefahobjlagaaGreatDoor

/- The knots of a net, of the reference, walked. Conditions: bars within bounds. -/
import Derived.Test.YtkkefahobjlagaaGreatDoorQ07
import Derived.Deep.CutRange
namespace Go.Proofs.YtkkefahobjlagaaGreatDoor
open Go.RowKit Go.ChangeMaps
set_option maxHeartbeats 4000000
set_option maxRecDepth 100000
def endK (b : Bar) : Nat → Knot
 | 0 => lowK b
 | _ => uppK b
def endsL (l : List Bar) : List Knot := l.flatMap fun b => [lowK b, uppK b]
@[go_sem] theorem mk_map {P : Program} (t : TypeId) (w : World) : (Instr.makeMap t none).run P w = .ok (.map (some w.heap.size)) (w.alloc (.map #[] 0)) := rfl
theorem zero_int (w : World) : (zeroValue 3).run Tryz.prog w = .ok (.int .i64 0) w := by kernel_rfl
def cntO (n : Nat) : Option Nat := if n = 0 then none else some n
def degN (l : List Bar) (k : Knot) : Nat := (endsL l).count k
def RBE (w : World) (l : List Bar) (n : Int) (e : Ending) (w' : World) : Prop := ∃ v, e = .returned (.tuple #[v, .int .i64 n]) ∧ OwB w.heap.size w' v l ∧ Below w.heap.size w w'
theorem nnet_sl {v : Value} (l : List Bar) (w : World) (h : SlB w v l) : Calls Tryz.prog 77 #[v] w (RV w (.int .i64 (netE l))) := by
 obtain ⟨A, c, rfl, hlc, hcm, h⟩ := h
 exact nnet_any l A c w (Nat.le_trans hlc hcm) h
theorem NetOk.len1 {l : List Bar} (h : NetOk l) : l.length ≤ 10000 := Nat.le_trans h.len (by decide)
def onlyOk {α : Type} (e : Int) (l : List α) : List α := if e = 0 then l else []
def degE (l : List Bar) (x y : Int) : Int := firstI [netE l, knotE x y]
end Go.Proofs.YtkkefahobjlagaaGreatDoor

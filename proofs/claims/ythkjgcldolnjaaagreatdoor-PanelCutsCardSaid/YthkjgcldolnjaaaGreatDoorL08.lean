/- The knots of a net, of the reference, walked. Conditions: bars within bounds. -/
import Derived.Test.YthkjgcldolnjaaaGreatDoorL07
import Derived.Deep.CutRange
namespace Go.Proofs.YthkjgcldolnjaaaGreatDoor
open Go.RowKit Go.ChangeMaps
set_option maxHeartbeats 4000000
set_option maxRecDepth 100000

def endK (b : Bar) : Nat → Knot
  | 0 => lowK b
  | _ => uppK b
/-- the ends of the bars, one by one -/
def endsL (l : List Bar) : List Knot := l.flatMap fun b => [lowK b, uppK b]
end Go.Proofs.YthkjgcldolnjaaaGreatDoor

/- The knots of a net, of the program, walked. Conditions: bars within bounds. -/
namespace Go.Proofs.YthkjgcldolnjaaaGreatDoor
open Go.RowKit Go.ChangeMaps
set_option maxHeartbeats 4000000
set_option maxRecDepth 100000

end Go.Proofs.YthkjgcldolnjaaaGreatDoor

/- The degrees of the knots of a net, of the program, walked. Conditions: bars within bounds. -/
namespace Go.Proofs.YthkjgcldolnjaaaGreatDoor
open Go.RowKit Go.ChangeMaps
set_option maxHeartbeats 4000000
set_option maxRecDepth 100000

section
variable {κ : Type} [DecidableEq κ]
variable {ek : κ → Value} {w : World} {r : Nat} {m : List (κ × Nat × Nat)} {c : Nat} {P : Program} {k e t : TypeId}
end
@[go_sem] theorem mk_map {P : Program} (t : TypeId) (w : World) : (Instr.makeMap t none).run P w = .ok (.map (some w.heap.size)) (w.alloc (.map #[] 0)) := rfl
theorem zero_int (w : World) : (zeroValue 3).run Tryz.prog w = .ok (.int .i64 0) w := by kernel_rfl
/-- how many of the ends are a knot, as a map has it -/
def cntO (n : Nat) : Option Nat := if n = 0 then none else some n
def degN (l : List Bar) (k : Knot) : Nat := (endsL l).count k
end Go.Proofs.YthkjgcldolnjaaaGreatDoor

/- Knots, Degree and Legs of the program, walked. Conditions: the slices read as lists. -/
namespace Go.Proofs.YthkjgcldolnjaaaGreatDoor
open Go.RowKit Go.ChangeMaps
set_option maxHeartbeats 4000000
set_option maxRecDepth 100000

/-- a row of bars .. of knots, and an error -/
def RBE (w : World) (l : List Bar) (n : Int) (e : Ending) (w' : World) : Prop := ∃ v, e = .returned (.tuple #[v, .int .i64 n]) ∧ OwB w.heap.size w' v l ∧ Below w.heap.size w w'
theorem nnet_sl {v : Value} (l : List Bar) (w : World) (h : SlB w v l) : Calls Tryz.prog 140 #[v] w (RV w (.int .i64 (netE l))) := by
  obtain ⟨A, c, rfl, hlc, hcm, h⟩ := h
  exact nnet_any l A c w (Nat.le_trans hlc hcm) h
theorem NetOk.len1 {l : List Bar} (h : NetOk l) : l.length ≤ 10000 := Nat.le_trans h.len (by decide)
def onlyOk {α : Type} (e : Int) (l : List α) : List α := if e = 0 then l else []
end Go.Proofs.YthkjgcldolnjaaaGreatDoor

/- The statements' other arguments opened: lists of bars, of knots. Conditions: none. -/
import Derived.Test.YthcnngoaijgnoaaGreatK11
namespace Go.Proofs.YthcnngoaijgnoaaGreat
open Go.ChangeShapes Go.WideShapes Go.ChangeAt Go.RowKit Go.Deep Go.Joins
set_option maxRecDepth 100000
set_option maxHeartbeats 1000000
section
variable {H : Type} {enc' : TypeId × Value → H} {w : World} {base : Nat} {spare : Nat → Bool} {held : Bool}
theorem knots_open {fuel : Nat} {c : Value} {x : DataW H × List MemPlace} (h : DataW.trod enc' Tryz.prog w base spare held fuel 34 [c] = some x) : ∃ l : List Knot, SlK w c l :=
  sl_open Tryz.underlying34 (by kernel_rfl) (by decide) (fun _ _ _ h => knot_trod h) h
theorem barsArg_open {r : Reach} {b0 : Nat} {v : Value} {d : DataW H} {p : List MemPlace} (hv : Value.okWide Tryz.prog w r b0 22 v) (h : DataW.Trod enc' Tryz.prog w base spare held 22 v d p) : ∃ l, SlB w v l := by
  obtain ⟨a, n, c, rfl⟩ := okWide_slice Tryz.underlying22 hv
  obtain ⟨fuel, hf⟩ := h
  exact bars_open (by simpa [Value.cells] using hf)
theorem knotsArg_open {r : Reach} {b0 : Nat} {v : Value} {d : DataW H} {p : List MemPlace} (hv : Value.okWide Tryz.prog w r b0 34 v) (h : DataW.Trod enc' Tryz.prog w base spare held 34 v d p) : ∃ l, SlK w v l := by
  obtain ⟨a, n, c, rfl⟩ := okWide_slice Tryz.underlying34 hv
  obtain ⟨fuel, hf⟩ := h
  exact knots_open (by simpa [Value.cells] using hf)
end
end Go.Proofs.YthcnngoaijgnoaaGreat

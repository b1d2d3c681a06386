/- The statements' other arguments opened: a pair of numbers. Conditions: none. -/
import Derived.Test.YthcnngoaijgnoaaGreatK11
import Derived.Test.YthcnngoaijgnoaaGreatOpbJ
namespace Go.Proofs.YthcnngoaijgnoaaGreat
open Go.ChangeShapes Go.WideShapes Go.ChangeAt Go.RowKit Go.Deep Go.Joins
set_option maxRecDepth 100000
set_option maxHeartbeats 1000000
section
variable {H : Type} {enc' : TypeId × Value → H} {w : World} {base : Nat} {spare : Nat → Bool} {held : Bool}
theorem int2_open {r : Reach} {b0 : Nat} {v : Value} {d : DataW H} {p : List MemPlace} (hv : Value.okWide Tryz.prog w r b0 86 v) (h : DataW.Trod enc' Tryz.prog w base spare held 86 v d p) :
    ∃ x y : Int, v = .agg #[.int .i64 x, .int .i64 y] := by
  have ht : Tryz.prog.underlying 86 = some (.array 2 3) := Tryz.underlying86
  have hC : Tryz.prog.cellsOf 86 = 2 := by kernel_rfl
  have hI : Tryz.prog.cellsOf 3 = 1 := by kernel_rfl
  simp only [Value.okWide, ht] at hv
  obtain ⟨cs, rfl, hsz, _⟩ := hv
  obtain ⟨fuel, hf⟩ := h
  obtain ⟨xs, m, _, _, hl, hxl, hel⟩ := DataW.trod_array ht hf
  have h0 := hel 0 (by omega)
  have h1 := hel 1 (by omega)
  rw [List.getElem?_eq_getElem (by omega)] at h0 h1
  obtain ⟨x, e0, _⟩ := DataW.trod_int Tryz.underlying3 h0
  obtain ⟨y, e1, _⟩ := DataW.trod_int Tryz.underlying3 h1
  rw [hC] at hsz
  obtain ⟨c0, c1, rfl⟩ := array2 hsz
  simp [Value.cells, hI] at e0 e1
  subst e0 e1
  exact ⟨x, y, rfl⟩
end
end Go.Proofs.YthcnngoaijgnoaaGreat

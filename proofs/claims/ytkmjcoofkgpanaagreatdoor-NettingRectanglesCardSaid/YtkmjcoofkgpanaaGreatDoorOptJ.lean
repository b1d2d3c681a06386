/- A pair of small numbers opened. Conditions: none. -/
import Derived.Test.YtkmjcoofkgpanaaGreatDoorB21
import Derived.Test.YtkmjcoofkgpanaaGreatDoorOprJ
namespace Go.Proofs.YtkmjcoofkgpanaaGreatDoor
open Go.ChangeShapes Go.WideShapes Go.ChangeAt Go.RowKit Go.Deep Go.Joins Go.ChangeMaps

set_option maxRecDepth 100000
set_option maxHeartbeats 1000000
section
variable {H : Type} {enc' : TypeId × Value → H} {w : World} {base : Nat} {spare : Nat → Bool} {held : Bool}
theorem u82_open {r : Reach} {b0 : Nat} {v : Value} {d : DataW H} {p : List MemPlace} (hv : Value.okWide Tryz.prog w r b0 116 v) (h : DataW.Trod enc' Tryz.prog w base spare held 116 v d p) :
    ∃ x y : Int, v = .agg #[.int .u8 x, .int .u8 y] ∧ (0 ≤ x ∧ x ≤ 255) ∧ 0 ≤ y ∧ y ≤ 255 := by
  have ht : Tryz.prog.underlying 116 = some (.array 2 5) := Tryz.underlying116
  have hC : Tryz.prog.cellsOf 116 = 2 := by kernel_rfl
  have hI : Tryz.prog.cellsOf 5 = 1 := by kernel_rfl
  simp only [Value.okWide, ht] at hv
  obtain ⟨cs, rfl, hsz, _⟩ := hv
  obtain ⟨fuel, hf⟩ := h
  obtain ⟨xs, m, _, _, hl, hxl, hel⟩ := DataW.trod_array ht hf
  have h0 := hel 0 (by omega)
  have h1 := hel 1 (by omega)
  rw [List.getElem?_eq_getElem (by omega)] at h0 h1
  obtain ⟨x, e0, _, z0⟩ := DataW.trod_int Tryz.underlying5 h0
  obtain ⟨y, e1, _, z1⟩ := DataW.trod_int Tryz.underlying5 h1
  rw [hC] at hsz
  obtain ⟨c0, c1, rfl⟩ := array2 hsz
  simp [Value.cells, hI] at e0 e1
  subst e0 e1
  exact ⟨x, y, rfl, u8_range z0, u8_range z1⟩
end
end Go.Proofs.YtkmjcoofkgpanaaGreatDoor

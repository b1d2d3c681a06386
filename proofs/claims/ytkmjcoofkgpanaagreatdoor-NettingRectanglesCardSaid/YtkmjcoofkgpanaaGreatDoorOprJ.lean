/- More of the statements' arguments opened. Conditions: none. -/
import Derived.Test.YtkmjcoofkgpanaaGreatDoorB21
import Derived.ChangeMaps5
namespace Go.Proofs.YtkmjcoofkgpanaaGreatDoor
open Go.ChangeShapes Go.WideShapes Go.ChangeAt Go.RowKit Go.Deep Go.Joins Go.ChangeMaps

set_option maxRecDepth 100000
set_option maxHeartbeats 1000000
theorem u8_range {n : Int} (h : (Lit.int .u8 n).wf = true) : 0 ≤ n ∧ n ≤ 255 := by
  simp [Lit.wf, IntKind.min, IntKind.max, IntKind.signed, IntKind.bits] at h
  omega
theorem i8_range {n : Int} (h : (Lit.int .i8 n).wf = true) : -128 ≤ n ∧ n ≤ 127 := by
  simp [Lit.wf, IntKind.min, IntKind.max, IntKind.signed, IntKind.bits] at h
  omega
section
variable {H : Type} {enc' : TypeId × Value → H} {w : World} {base : Nat} {spare : Nat → Bool} {held : Bool}
theorem bar_open {r : Reach} {b0 : Nat} {v : Value} {d : DataW H} {p : List MemPlace} (hv : Value.okWide Tryz.prog w r b0 60 v) (h : DataW.Trod enc' Tryz.prog w base spare held 60 v d p) :
    ∃ x y s : Int, v = .agg #[.int .i64 x, .int .i64 y, .int .i64 s] := by
  obtain ⟨a, b, c, y0, y1, y2, n, rfl, _, _, h0, h1, h2⟩ := open_agg3 Tryz.underlying60 (by kernel_rfl) (by kernel_rfl) hv h
  obtain ⟨x, e0, _⟩ := DataW.trod_int Tryz.underlying3 h0
  obtain ⟨y, e1, _⟩ := DataW.trod_int Tryz.underlying3 h1
  obtain ⟨s, e2, _⟩ := DataW.trod_int Tryz.underlying3 h2
  simp at e0 e1 e2
  subst e0 e1 e2
  exact ⟨x, y, s, rfl⟩
theorem str_open {r : Reach} {b0 : Nat} {v : Value} {d : DataW H} {p : List MemPlace} (hv : Value.okWide Tryz.prog w r b0 9 v) (h : DataW.Trod enc' Tryz.prog w base spare held 9 v d p) :
    ∃ s : List UInt8, v = .string ⟨s.toArray⟩ ∧ s.length ≤ maxLen := by
  obtain ⟨b, rfl, _, _, hz⟩ := open_string Tryz.underlying9 hv h
  obtain ⟨⟨L⟩⟩ := b
  exact ⟨L, rfl, hz⟩
end
end Go.Proofs.YtkmjcoofkgpanaaGreatDoor

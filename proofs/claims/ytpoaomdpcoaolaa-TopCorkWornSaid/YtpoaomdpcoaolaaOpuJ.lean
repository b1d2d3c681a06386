/- The statements' arguments opened: a slice of bars or of knots reads as a list. Conditions: none. -/
import Derived.Test.YtpoaomdpcoaolaaC19
import Derived.Test.YtpoaomdpcoaolaaC04
import Derived.ChangeMaps5
import Derived.WalkKit
import Derived.ShutString
import Derived.ChangeOld
import Derived.Below
import Derived.Lib.SmallJoins
import Derived.Deep.Slices
import Derived.Deep.Strs
namespace Go.Proofs.Ytpoaomdpcoaolaa
open Go.ChangeShapes Go.WideShapes Go.ChangeAt Go.RowKit Go.Deep Go.Joins

set_option maxRecDepth 100000
set_option maxHeartbeats 1000000
theorem lawOwn : ownKnob Try.prog.godebug = none := by kernel_rfl
theorem lawLaid : laidOutB Try.prog = true := by kernel_rfl
section
variable {H : Type} {enc' : TypeId × Value → H} {P : Program} {w : World} {base : Nat} {spare : Nat → Bool} {held : Bool}
theorem sl_open {α : Type} [Inhabited α] {en : α → List Value} {sz : Nat} {t e : TypeId} {fuel : Nat} {c : Value} {x : DataW H × List MemPlace} (ht : P.underlying t = some (.slice e)) (hC : P.cellsOf e = sz) (hpos : 0 < sz)
    (hel : ∀ fuel cs y, DataW.trod enc' P w base spare held fuel e cs = some y → ∃ a : α, cs = en a) (h : DataW.trod enc' P w base spare held fuel t [c] = some x) : ∃ l : List α, Sl en sz w c l := by
  rcases open_slice ht h with ⟨hcs, _⟩ | ⟨a, len, cap, m, n, D, Pl, hcs, hb, hl, hm, hmm, _, hx⟩
  · obtain rfl : c = .slice none 0 0 := by simpa using hcs
    exact ⟨[], Sl.nil_⟩
  · obtain rfl : c = .slice (some a) len cap := by simpa using hcs
    have hlm : len ≤ m := by rw [hmm]; split <;> omega
    have each : ∀ i, i < len → ∃ z : α, (en z).length = sz ∧ ∀ j, j < sz → w.cell? (a.add (i * sz + j)) = (en z)[j]? := fun i hi => by
      obtain ⟨cs', h1, h2⟩ := hx i (by omega)
      rw [hC] at h1
      obtain ⟨z, rfl⟩ := hel _ _ _ h2
      obtain ⟨_, hlen, hcell⟩ := World.cells?_some h1
      exact ⟨z, hlen, fun j hj => by rw [← add_add]; exact hcell j hj⟩
    obtain ⟨f, hf⟩ := choose_lt each
    refine ⟨(List.range len).map f, some a, cap, by simp, by simpa using hl, hm, fun i x hx => ?_⟩
    rw [List.getElem?_map] at hx
    have hi : i < len := by
      by_cases hi : i < len
      · exact hi
      · rw [List.getElem?_eq_none (by simpa using hi)] at hx; cases hx
    rw [List.getElem?_range hi] at hx
    obtain rfl : f i = x := by simpa using hx
    obtain ⟨hfl, hfc⟩ := hf i hi
    have hc0 := hfc 0 hpos
    have hl0 : 0 < (en (f i)).length := by omega
    rw [List.getElem?_eq_getElem hl0] at hc0
    obtain ⟨b, off, spot⟩ := a
    have hspot : spot = none := by
      have := World.cell?_spot hc0
      unfold Addr.add at this
      split at this
      · exact this
      · rename_i hne
        have h0 := hf 0 (by omega)
        have := h0.2 0 hpos
        rw [List.getElem?_eq_getElem (by omega)] at this
        have := World.cell?_spot this
        simpa [Addr.add] using this
    subst hspot
    have hadd : ∀ n, (⟨b, off, none⟩ : Addr).add n = ⟨b, off + n, none⟩ := fun n => by
      unfold Addr.add
      split
      · rename_i h0; rw [h0]; rfl
      · rfl
    refine ⟨b, off, rfl, ?_, fun j u hu => ?_⟩
    · rw [hadd] at hc0
      unfold World.cell? at hc0
      by_cases hbl : b < w.heap.size
      · exact hbl
      · simp [Array.getElem?_eq_none (show w.heap.size ≤ b by omega)] at hc0
    · have hj : j < sz := by rw [← hfl]; exact (List.getElem?_eq_some_iff.1 hu).1
      have := hfc j hj
      rw [hadd, hu, ← Nat.add_assoc] at this
      exact this
end
section
variable {H : Type} {enc' : TypeId × Value → H} {w : World} {base : Nat} {spare : Nat → Bool} {held : Bool}
theorem bar_trod {fuel : Nat} {cs : List Value} {y : DataW H × List MemPlace} (h : DataW.trod enc' Try.prog w base spare held fuel 50 cs = some y) : ∃ a : Bar, cs = bc a := by
  obtain ⟨y0, y1, y2, n, _, hl, h0, h1, h2⟩ := trod_struct3 Try.underlying50 h
  obtain ⟨a, e0, _⟩ := DataW.trod_int Try.underlying3 h0
  obtain ⟨b, e1, _⟩ := DataW.trod_int Try.underlying3 h1
  obtain ⟨c, e2, _⟩ := DataW.trod_int Try.underlying3 h2
  have hC : Try.prog.cellsOf 50 = 3 := by kernel_rfl
  have hI : Try.prog.cellsOf 3 = 1 := by kernel_rfl
  rw [hC] at hl
  simp only [hI] at e0 e1 e2
  match cs, hl with
  | [p, q, r], _ =>
    simp at e0 e1 e2
    subst e0 e1 e2
    exact ⟨(a, b, c), rfl⟩
theorem knot_trod {fuel : Nat} {cs : List Value} {y : DataW H × List MemPlace} (h : DataW.trod enc' Try.prog w base spare held fuel 30 cs = some y) : ∃ a : Knot, cs = kc a := by
  obtain ⟨y0, y1, n, _, hl, h0, h1⟩ := trod_struct2 Try.underlying30 h
  obtain ⟨a, e0, _⟩ := DataW.trod_int Try.underlying3 h0
  obtain ⟨b, e1, _⟩ := DataW.trod_int Try.underlying3 h1
  have hC : Try.prog.cellsOf 30 = 2 := by kernel_rfl
  have hI : Try.prog.cellsOf 3 = 1 := by kernel_rfl
  rw [hC] at hl
  simp only [hI] at e0 e1
  match cs, hl with
  | [p, q], _ =>
    simp at e0 e1
    subst e0 e1
    exact ⟨(a, b), rfl⟩
theorem bars_open {fuel : Nat} {c : Value} {x : DataW H × List MemPlace} (h : DataW.trod enc' Try.prog w base spare held fuel 22 [c] = some x) : ∃ l : List Bar, SlB w c l :=
  sl_open Try.underlying22 (by kernel_rfl) (by decide) (fun _ _ _ h => bar_trod h) h
theorem knot_open {r : Reach} {b0 : Nat} {v : Value} {d : DataW H} {p : List MemPlace} (hv : Value.okWide Try.prog w r b0 30 v) (h : DataW.Trod enc' Try.prog w base spare held 30 v d p) :
    ∃ x y : Int, v = .agg #[.int .i64 x, .int .i64 y] := by
  obtain ⟨a, b, y0, y1, n, rfl, _, _, h0, h1⟩ := open_agg2 Try.underlying30 (by kernel_rfl) (by kernel_rfl) hv h
  obtain ⟨x, e0, _⟩ := DataW.trod_int Try.underlying3 h0
  obtain ⟨y, e1, _⟩ := DataW.trod_int Try.underlying3 h1
  simp at e0 e1
  subst e0 e1
  exact ⟨x, y, rfl⟩
end
section
variable {H : Type} {enc' : TypeId × Value → H} {w : World} {base : Nat} {spare : Nat → Bool} {held : Bool}
theorem knots_open {fuel : Nat} {c : Value} {x : DataW H × List MemPlace} (h : DataW.trod enc' Try.prog w base spare held fuel 36 [c] = some x) : ∃ l : List Knot, SlK w c l :=
  sl_open Try.underlying36 (by kernel_rfl) (by decide) (fun _ _ _ h => knot_trod h) h
theorem barsArg_open {r : Reach} {b0 : Nat} {v : Value} {d : DataW H} {p : List MemPlace} (hv : Value.okWide Try.prog w r b0 22 v) (h : DataW.Trod enc' Try.prog w base spare held 22 v d p) : ∃ l, SlB w v l := by
  obtain ⟨a, n, c, rfl⟩ := okWide_slice Try.underlying22 hv
  obtain ⟨fuel, hf⟩ := h
  exact bars_open (by simpa [Value.cells] using hf)
theorem knotsArg_open {r : Reach} {b0 : Nat} {v : Value} {d : DataW H} {p : List MemPlace} (hv : Value.okWide Try.prog w r b0 36 v) (h : DataW.Trod enc' Try.prog w base spare held 36 v d p) : ∃ l, SlK w v l := by
  obtain ⟨a, n, c, rfl⟩ := okWide_slice Try.underlying36 hv
  obtain ⟨fuel, hf⟩ := h
  exact knots_open (by simpa [Value.cells] using hf)
end
theorem u8_range {n : Int} (h : (Lit.int .u8 n).wf = true) : 0 ≤ n ∧ n ≤ 255 := by
  simp [Lit.wf, IntKind.min, IntKind.max, IntKind.signed, IntKind.bits] at h
  omega
theorem i8_range {n : Int} (h : (Lit.int .i8 n).wf = true) : -128 ≤ n ∧ n ≤ 127 := by
  simp [Lit.wf, IntKind.min, IntKind.max, IntKind.signed, IntKind.bits] at h
  omega
theorem u16_range {n : Int} (h : (Lit.int .u16 n).wf = true) : 0 ≤ n ∧ n ≤ 65535 := by
  simp [Lit.wf, IntKind.min, IntKind.max, IntKind.signed, IntKind.bits] at h
  omega
section
variable {H : Type} {enc' : TypeId × Value → H} {w : World} {base : Nat} {spare : Nat → Bool} {held : Bool}
theorem u82_open {r : Reach} {b0 : Nat} {v : Value} {d : DataW H} {p : List MemPlace} (hv : Value.okWide Try.prog w r b0 41 v) (h : DataW.Trod enc' Try.prog w base spare held 41 v d p) :
    ∃ x y : Int, v = .agg #[.int .u8 x, .int .u8 y] ∧ (0 ≤ x ∧ x ≤ 255) ∧ 0 ≤ y ∧ y ≤ 255 := by
  have ht : Try.prog.underlying 41 = some (.array 2 5) := Try.underlying41
  have hC : Try.prog.cellsOf 41 = 2 := by kernel_rfl
  have hI : Try.prog.cellsOf 5 = 1 := by kernel_rfl
  simp only [Value.okWide, ht] at hv
  obtain ⟨cs, rfl, hsz, _⟩ := hv
  obtain ⟨fuel, hf⟩ := h
  obtain ⟨xs, m, _, _, hl, hxl, hel⟩ := DataW.trod_array ht hf
  have h0 := hel 0 (by omega)
  have h1 := hel 1 (by omega)
  rw [List.getElem?_eq_getElem (by omega)] at h0 h1
  obtain ⟨x, e0, _, z0⟩ := DataW.trod_int Try.underlying5 h0
  obtain ⟨y, e1, _, z1⟩ := DataW.trod_int Try.underlying5 h1
  rw [hC] at hsz
  obtain ⟨c0, c1, rfl⟩ := array2 hsz
  simp [Value.cells, hI] at e0 e1
  subst e0 e1
  exact ⟨x, y, rfl, u8_range z0, u8_range z1⟩
end
end Go.Proofs.Ytpoaomdpcoaolaa

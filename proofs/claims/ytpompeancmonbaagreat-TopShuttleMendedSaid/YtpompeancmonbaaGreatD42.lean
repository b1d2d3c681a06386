/- The statements' arguments opened: a slice of bars or of knots reads as a list; a torn net as two. Conditions: none. -/
import Derived.Test.YtpompeancmonbaaGreatRows
import Derived.Test.YtpompeancmonbaaGreatD07
import Derived.WalkKit
import Derived.ProofKit
import Derived.OpenShut
import Derived.ShutString
import Derived.ChangeOld
import Derived.Below
import Derived.Lib.SmallJoins
import Derived.Deep.Slices
import Derived.Deep.Strs
import Derived.Test.YtpompeancmonbaaGreatD15
import Derived.Test.YtpompeancmonbaaGreatD21
import Derived.Test.YtpompeancmonbaaGreatD20
import Derived.Test.YtpompeancmonbaaGreatD22
import Derived.Test.YtpompeancmonbaaGreatD24
import Derived.Test.YtpompeancmonbaaGreatD12
import Derived.SizedLaws
namespace Go.Proofs.YtpompeancmonbaaGreat
open Go.ChangeShapes Go.WideShapes Go.ChangeAt Go.RowKit Go.Deep Go.Joins

set_option maxRecDepth 100000
set_option maxHeartbeats 1000000
theorem lawOwn : ownKnob Tryz.prog.godebug = none := by kernel_rfl
theorem lawLaid : laidOutB Tryz.prog = true := by kernel_rfl
section
variable {H : Type} {enc' : TypeId × Value → H} {P : Program} {w : World} {base : Nat} {spare : Nat → Bool} {held : Bool}
theorem sl_open {α : Type} [Inhabited α] {en : α → List Value} {sz : Nat} {t e : TypeId} {fuel : Nat} {c : Value} {x : DataW H × List MemPlace} (ht : P.underlying t = some (.slice e)) (hC : P.cellsOf e = sz) (hpos : 0 < sz)
    (hel : ∀ fuel cs y, DataW.trod enc' P w base spare held fuel e cs = some y → ∃ a : α, cs = en a) (h : DataW.trod enc' P w base spare held fuel t [c] = some x) : ∃ l : List α, Sl en sz w c l := by
  rcases open_slice ht h with ⟨hcs, _⟩ | ⟨a, len, cap, m, n, D, Pl, hcs, hb, hl, hm, hmm, _, hx⟩
  · obtain rfl : c = .slice none 0 0 := by simpa using hcs
    exact ⟨[], Sl.nil_⟩
  · obtain rfl : c = .slice (some a) len cap := by simpa using hcs
    have hlm : len ≤ m := by rw [hmm]; split <;> omega
    have each : ∀ i, i < len → ∃ z : α, (en z).length = sz ∧ ∀ j, j < sz → w.cell? (a.add (i * sz + j)) = (en z)[j]? := fun i hi => by
      obtain ⟨cs', h1, h2⟩ := hx i (by omega)
      rw [hC] at h1
      obtain ⟨z, rfl⟩ := hel _ _ _ h2
      obtain ⟨_, hlen, hcell⟩ := World.cells?_some h1
      exact ⟨z, hlen, fun j hj => by rw [← add_add]; exact hcell j hj⟩
    obtain ⟨f, hf⟩ := choose_lt each
    refine ⟨(List.range len).map f, some a, cap, by simp, by simpa using hl, hm, fun i x hx => ?_⟩
    rw [List.getElem?_map] at hx
    have hi : i < len := by
      by_cases hi : i < len
      · exact hi
      · rw [List.getElem?_eq_none (by simpa using hi)] at hx; cases hx
    rw [List.getElem?_range hi] at hx
    obtain rfl : f i = x := by simpa using hx
    obtain ⟨hfl, hfc⟩ := hf i hi
    have hc0 := hfc 0 hpos
    have hl0 : 0 < (en (f i)).length := by omega
    rw [List.getElem?_eq_getElem hl0] at hc0
    obtain ⟨b, off, spot⟩ := a
    have hspot : spot = none := by
      have := World.cell?_spot hc0
      unfold Addr.add at this
      split at this
      · exact this
      · rename_i hne
        have h0 := hf 0 (by omega)
        have := h0.2 0 hpos
        rw [List.getElem?_eq_getElem (by omega)] at this
        have := World.cell?_spot this
        simpa [Addr.add] using this
    subst hspot
    have hadd : ∀ n, (⟨b, off, none⟩ : Addr).add n = ⟨b, off + n, none⟩ := fun n => by
      unfold Addr.add
      split
      · rename_i h0; rw [h0]; rfl
      · rfl
    refine ⟨b, off, rfl, ?_, fun j u hu => ?_⟩
    · rw [hadd] at hc0
      unfold World.cell? at hc0
      by_cases hbl : b < w.heap.size
      · exact hbl
      · simp [Array.getElem?_eq_none (show w.heap.size ≤ b by omega)] at hc0
    · have hj : j < sz := by rw [← hfl]; exact (List.getElem?_eq_some_iff.1 hu).1
      have := hfc j hj
      rw [hadd, hu, ← Nat.add_assoc] at this
      exact this
end
section
variable {H : Type} {enc' : TypeId × Value → H} {w : World} {base : Nat} {spare : Nat → Bool} {held : Bool}
theorem bar_trod {fuel : Nat} {cs : List Value} {y : DataW H × List MemPlace} (h : DataW.trod enc' Tryz.prog w base spare held fuel 46 cs = some y) : ∃ a : Bar, cs = bc a := by
  obtain ⟨y0, y1, y2, n, _, hl, h0, h1, h2⟩ := trod_struct3 Tryz.underlying46 h
  obtain ⟨a, e0, _⟩ := DataW.trod_int Tryz.underlying3 h0
  obtain ⟨b, e1, _⟩ := DataW.trod_int Tryz.underlying3 h1
  obtain ⟨c, e2, _⟩ := DataW.trod_int Tryz.underlying3 h2
  have hC : Tryz.prog.cellsOf 46 = 3 := by kernel_rfl
  have hI : Tryz.prog.cellsOf 3 = 1 := by kernel_rfl
  rw [hC] at hl
  simp only [hI] at e0 e1 e2
  match cs, hl with
  | [p, q, r], _ =>
    simp at e0 e1 e2
    subst e0 e1 e2
    exact ⟨(a, b, c), rfl⟩
theorem knot_trod {fuel : Nat} {cs : List Value} {y : DataW H × List MemPlace} (h : DataW.trod enc' Tryz.prog w base spare held fuel 32 cs = some y) : ∃ a : Knot, cs = kc a := by
  obtain ⟨y0, y1, n, _, hl, h0, h1⟩ := trod_struct2 Tryz.underlying32 h
  obtain ⟨a, e0, _⟩ := DataW.trod_int Tryz.underlying3 h0
  obtain ⟨b, e1, _⟩ := DataW.trod_int Tryz.underlying3 h1
  have hC : Tryz.prog.cellsOf 32 = 2 := by kernel_rfl
  have hI : Tryz.prog.cellsOf 3 = 1 := by kernel_rfl
  rw [hC] at hl
  simp only [hI] at e0 e1
  match cs, hl with
  | [p, q], _ =>
    simp at e0 e1
    subst e0 e1
    exact ⟨(a, b), rfl⟩
theorem bars_open {fuel : Nat} {c : Value} {x : DataW H × List MemPlace} (h : DataW.trod enc' Tryz.prog w base spare held fuel 22 [c] = some x) : ∃ l : List Bar, SlB w c l :=
  sl_open Tryz.underlying22 (by kernel_rfl) (by decide) (fun _ _ _ h => bar_trod h) h
theorem torn_open {r : Reach} {b0 : Nat} {v : Value} {d : DataW H} {p : List MemPlace} (hv : Value.okWide Tryz.prog w r b0 24 v) (h : DataW.Trod enc' Tryz.prog w base spare held 24 v d p) :
    ∃ a b N D, v = .agg #[a, b] ∧ SlB w a N ∧ SlB w b D := by
  obtain ⟨a, b, y0, y1, n, rfl, _, _, h0, h1⟩ := open_agg2 Tryz.underlying24 (by kernel_rfl) (by kernel_rfl) hv h
  obtain ⟨N, hN⟩ := bars_open h0
  obtain ⟨D, hD⟩ := bars_open h1
  exact ⟨a, b, N, D, rfl, hN, hD⟩
theorem knot_open {r : Reach} {b0 : Nat} {v : Value} {d : DataW H} {p : List MemPlace} (hv : Value.okWide Tryz.prog w r b0 32 v) (h : DataW.Trod enc' Tryz.prog w base spare held 32 v d p) :
    ∃ x y : Int, v = .agg #[.int .i64 x, .int .i64 y] := by
  obtain ⟨a, b, y0, y1, n, rfl, _, _, h0, h1⟩ := open_agg2 Tryz.underlying32 (by kernel_rfl) (by kernel_rfl) hv h
  obtain ⟨x, e0, _⟩ := DataW.trod_int Tryz.underlying3 h0
  obtain ⟨y, e1, _⟩ := DataW.trod_int Tryz.underlying3 h1
  simp at e0 e1
  subst e0 e1
  exact ⟨x, y, rfl⟩
end
end Go.Proofs.YtpompeancmonbaaGreat

/- A torn net opened, and how long its lists can be. Conditions: none. -/
namespace Go.Proofs.YtpompeancmonbaaGreat
open Go.RowKit Go.ChangeMaps
set_option maxHeartbeats 4000000
set_option maxRecDepth 100000

attribute [local go_sem] Oper.semAt_some
open Go.ChangeShapes Go.WideShapes Go.ChangeAt Go.Deep Go.Joins
section
variable {H : Type} {enc' : TypeId × Value → H} {w : World} {base : Nat} {spare : Nat → Bool} {held : Bool}
theorem bars_sized {fuel : Nat} {c : Value} {x : DataW H × List MemPlace} (h : DataW.trod enc' Tryz.prog w base spare held fuel 22 [c] = some x) (hs : ∀ n ∈ x.1.weights Tryz.prog 22, n ≤ reachBytes) :
    ∃ l : List Bar, SlB w c l ∧ l.length ≤ 5864062014805 := by
  obtain ⟨l, hl⟩ := bars_open h
  refine ⟨l, hl, ?_⟩
  obtain ⟨A, cp, rfl, _⟩ := id hl
  rcases open_slice Tryz.underlying22 h with ⟨hcs, _⟩ | ⟨a, len, cap, m, n, D, Pl, hcs, hb, hle, hm, hmm, hx, _⟩
  · simp at hcs
    have := hcs.2.1
    simp [this]
  · simp at hcs
    have hll := hcs.2.1
    have h1 := hs ((len + (m - len)) * Tryz.prog.bytesOf 46) (by rw [hx]; simp [DataW.weights, Tryz.underlying22])
    have h24 : Tryz.prog.bytesOf 46 = 24 := by kernel_rfl
    rw [h24] at h1
    unfold reachBytes at h1
    omega
theorem torn_sized {r : Reach} {b0 : Nat} {v : Value} {d : DataW H} {p : List MemPlace} (hv : Value.okWide Tryz.prog w r b0 24 v) (h : DataW.Trod enc' Tryz.prog w base spare held 24 v d p)
    (hs : ∀ n ∈ d.weights Tryz.prog 24, n ≤ reachBytes) :
    ∃ a b N D, v = .agg #[a, b] ∧ SlB w a N ∧ SlB w b D ∧ N.length ≤ 5864062014805 ∧ D.length ≤ 5864062014805 := by
  obtain ⟨a, b, y0, y1, n, rfl, hd, _, h0, h1⟩ := open_agg2 Tryz.underlying24 (by kernel_rfl) (by kernel_rfl) hv h
  have hw : ∀ n, n ∈ y0.1.weights Tryz.prog 22 ∨ n ∈ y1.1.weights Tryz.prog 22 → n ≤ reachBytes := fun n hn => hs n (by rw [hd]; simp [DataW.weights, DataW.weightsEach, Tryz.underlying24]; exact hn)
  obtain ⟨N, hN, lN⟩ := bars_sized h0 fun n hn => hw n (.inl hn)
  obtain ⟨D, hD, lD⟩ := bars_sized h1 fun n hn => hw n (.inr hn)
  exact ⟨a, b, N, D, rfl, hN, hD, lN, lD⟩
end
end Go.Proofs.YtpompeancmonbaaGreat

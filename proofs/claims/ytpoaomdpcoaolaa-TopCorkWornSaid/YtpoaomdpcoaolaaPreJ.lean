/- A sheet is a net; its numbers, plain. Conditions: within bounds. -/
import Derived.Test.YtpoaomdpcoaolaaC19
import Derived.Test.YtpoaomdpcoaolaaPrcJ
import Derived.Test.YtpoaomdpcoaolaaC18
namespace Go.Proofs.Ytpoaomdpcoaolaa
open Go.RowKit Go.ChangeMaps
set_option maxHeartbeats 4000000
set_option maxRecDepth 100000

/-! ## a sheet is a net; its numbers -/
theorem kS_mS (c : Int) : ∀ m : Nat, kS c (m + 2) + mS c m = 2 * c * ((m : Int) + 1) + 1
  | 0 => by
    simp only [kS, mS]
    simp
    omega
  | m + 1 => by
    have ih := kS_mS c m
    have e1 : kS c (m + 1 + 2) = kS c (m + 2) + (c + 1 - ((m + 2 : Nat) : Int) % 2) := rfl
    have e2 : mS c (m + 1) = mS c m + (c - ((m : Int) + 1) % 2) := rfl
    have e3 : 2 * c * (((m + 1 : Nat) : Int) + 1) = 2 * c * ((m : Int) + 1) + 2 * c := by
      rw [show ((m + 1 : Nat) : Int) + 1 = ((m : Int) + 1) + 1 by omega, Int.mul_add (2 * c) ((m : Int) + 1) 1, Int.mul_one]
    rw [e1, e2, e3]
    omega
structure SheetIn (x y : Int) (c r : Nat) : Prop where
  c1 : 1 ≤ c ∧ c ≤ 100
  r1 : 1 ≤ r ∧ r ≤ 100
  x1 : -100000 ≤ x ∧ x + 2 * c ≤ 100000
  y1 : -100000 ≤ y ∧ y + r ≤ 100000
  p1 : (x + y) % 2 = 0
  l1 : 2 * c * r ≤ 4096
variable {x y : Int} {c r : Nat}
theorem barE_yes {x y s : Int} (h1 : -100000 ≤ x ∧ x ≤ 100000) (h2 : -100000 ≤ y ∧ y + 1 ≤ 100000) (h3 : -100000 ≤ x + s ∧ x + s ≤ 100000) (hs : s = 1 ∨ s = -1) (hp : (x + y) % 2 = 0) : barE x y s = 0 := by
  unfold barE
  rw [if_neg (by rw [knotE_yes h1 (by omega) hp]; simp), if_neg (by omega)]
  exact knotE_yes h3 (by omega) (by omega)
theorem SheetIn.knot (h : SheetIn x y c r) : knotE x y = 0 := knotE_yes (by have := h.x1; omega) (by have := h.y1; omega) h.p1
theorem SheetIn.net (h : SheetIn x y c r) : netE (shN x y c r) = 0 := netE_zero (fun b hb => by
    have := (shN_mem r).1 hb
    unfold InS at this
    obtain ⟨h1, h2, h3, h4, h5, h6, h7, h8⟩ := this
    have e1 := h.x1
    have e2 := h.y1
    have e3 := h.p1
    exact barE_yes (by omega) (by omega) (by omega) h1 (by omega)) (shN_sorted _ _ _ _) (by rw [sheet_len _ _ h.c1.1]; exact h.l1)
theorem SheetIn.cnt (h : SheetIn x y c r) : cntA (shN x y c r) = #[.int .i64 (kS c (r + 1)), .int .i64 (2 * (c : Int) * r), .int .i64 (mS c (r - 1)), .int .i64 1, .int .i64 0] := by
  have h1 := sheet_knots x y h.c1.1 h.r1.1
  have h2 : ((shN x y c r).length : Int) = 2 * (c : Int) * r := by rw [sheet_len _ _ h.c1.1]; simp
  have h3 := sheet_meshes x y h.c1.1 h.r1.1
  have h4 := sheet_parts x y h.c1 h.r1.1
  have hok := netE_ok h.net
  rw [← partsL_eq hok.sorted fun b hb => ((shN_mem r).1 hb).1] at h4
  obtain ⟨m, rfl⟩ : ∃ m, r = m + 1 := ⟨r - 1, by have := h.r1.1; omega⟩
  have h5 : kS c (m + 1 + 1) + mS c m = 2 * (c : Int) * ((m : Int) + 1) + 1 := kS_mS c m
  rw [Nat.add_sub_cancel] at h3 ⊢
  have h6 : 2 * (c : Int) * ((m + 1 : Nat) : Int) = 2 * (c : Int) * ((m : Int) + 1) := by rw [Int.natCast_add]; rfl
  unfold cntA
  rw [if_pos h.net, h1, h2, h3, h4]
  rw [show 2 * (c : Int) * ((m + 1 : Nat) : Int) - kS c (m + 1 + 1) + ((1 : Nat) : Int) - mS c m = 0 by rw [h6]; generalize 2 * (c : Int) * ((m : Int) + 1) = T at h5 ⊢; omega]
  rfl
theorem SheetIn.deg (h : SheetIn x y c r) {a b : Int} (ha : x < a ∧ a < x + 2 * c) (hb : y < b ∧ b < y + r) (hp : (a + b) % 2 = 0) : knotE a b = 0 ∧ degN (shN x y c r) (a, b) = 4 := by
  have e1 := h.x1
  have e2 := h.y1
  have e3 := h.p1
  exact ⟨knotE_yes (by omega) (by omega) hp, sheet_deg ha hb (by omega)⟩
theorem SheetIn.turned (h : SheetIn x y c r) : netE (turnN 2 (shN x y c r)) = 0 := by
  have hs := shN_sorted x y c r
  have hsd : ∀ b ∈ shN x y c r, Sided b := fun b hb => ((shN_mem r).1 hb).1
  refine netE_zero (fun b hb => ?_) (turnN_sorted hs hsd 2) (by rw [turnN_len, sheet_len _ _ h.c1.1]; exact h.l1)
  obtain ⟨d, hd, rfl⟩ := (turnN_mem _ _ _).1 hb
  obtain ⟨e, he, rfl⟩ := (turnN_mem _ _ _).1 hd
  have he' : e ∈ shN x y c r := he
  rw [turnB_two (hsd e he')]
  have := (shN_mem r).1 he'
  unfold InS at this
  obtain ⟨h1, h2, h3, h4, h5, h6, h7, h8⟩ := this
  have e1 := h.x1
  have e2 := h.y1
  have e3 := h.p1
  exact barE_yes (by simp only; omega) (by simp only; omega) (by simp only; omega) h1 (by simp only; omega)
theorem SheetIn.inn (h : SheetIn x y c r) : allIn (shN x y c r) = true := by
  unfold allIn
  rw [List.all_eq_true]
  intro b hb
  have := (shN_mem r).1 hb
  unfold InS at this
  obtain ⟨h1, h2, h3, h4, h5, h6, h7, h8⟩ := this
  have e1 := h.x1
  have e2 := h.y1
  unfold inB
  rw [farB_no (by omega), farB_no (by omega), farB_no (by omega), farB_no (by omega)]
  rfl
theorem above_meet (x0 y0 : Int) (c r h : Nat) : meetL (wout (shN x0 y0 c (r + h)) (shN x0 y0 c r)) (shN x0 y0 c r) = [] := meet_none _ _
end Go.Proofs.Ytpoaomdpcoaolaa

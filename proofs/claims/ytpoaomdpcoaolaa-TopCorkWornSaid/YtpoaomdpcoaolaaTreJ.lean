/- Sheets without errors. Conditions: within bounds. -/
import Derived.Test.YtpoaomdpcoaolaaC19
import Derived.Test.YtpoaomdpcoaolaaPreJ
import Derived.Test.YtpoaomdpcoaolaaC18
import Derived.Test.YtpoaomdpcoaolaaNrsJ
namespace Go.Proofs.Ytpoaomdpcoaolaa
open Go.RowKit Go.ChangeMaps
set_option maxHeartbeats 4000000
set_option maxRecDepth 100000

theorem sheet_in {x y : Int} {c r : Nat} (h : sheetE x y c r = 0) (hc : 1 ≤ c ∧ c ≤ 100) (hr : 1 ≤ r ∧ r ≤ 100) : SheetIn x y c r := by
  have h1 : shE1 x y c r = 0 := by
    unfold sheetE at h
    split at h
    · rename_i h0; exact absurd h h0
    · rename_i h0; exact Decidable.byContradiction fun q => h0 q
  have h2 : shE2 x y c r = 0 := by
    unfold sheetE at h
    rwa [if_neg (by simp [h1])] at h
  obtain ⟨a1, _, _⟩ := firstI3_zero h1
  obtain ⟨z1, z2, z3, z4, z5⟩ := knotE_zero a1
  obtain ⟨b1, b2⟩ := firstI_zero h2
  have b3 : 2 * (c : Int) * (r : Int) ≤ 4096 := by
    unfold whenI at b1
    by_cases q : 4096 < 2 * (c : Int) * (r : Int)
    · simp [q] at b1
    · omega
  have b4 : x + 2 * c ≤ 100000 ∧ y + r ≤ 100000 := by
    rw [reachI_far] at b2
    unfold farB at b2
    by_cases q : x + 2 * (c : Int) ≤ 100000 ∧ y + (r : Int) ≤ 100000
    · exact q
    · rw [if_pos (by simp; omega)] at b2
      cases b2
  refine ⟨hc, hr, by omega, by omega, z5, ?_⟩
  have : ((2 * c * r : Nat) : Int) ≤ 4096 := by simpa using b3
  omega
theorem SheetIn.less {x y : Int} {c r k : Nat} (h : SheetIn x y c (r + k)) (hr : 1 ≤ r) : SheetIn x y c r := by
  have e1 := h.r1
  have e2 := h.y1
  have e3 := h.l1
  refine ⟨h.c1, by omega, h.x1, by omega, h.p1, ?_⟩
  have := Nat.mul_le_mul_left (2 * c) (show r ≤ r + k by omega)
  omega
theorem SheetIn.err {x y : Int} {c r : Nat} (h : SheetIn x y c r) : sheetE x y c r = 0 := by
  have e1 := h.c1
  have e2 := h.r1
  have e3 := h.x1
  have e4 := h.y1
  have e5 : 2 * (c : Int) * (r : Int) ≤ 4096 := by
    have := h.l1
    have h2 : ((2 * c * r : Nat) : Int) ≤ 4096 := by omega
    simpa using h2
  have s1 : shE1 x y c r = 0 := by
    unfold shE1 withinI
    rw [h.knot]
    simp [firstI, whenI]
    omega
  unfold sheetE
  rw [if_neg (by simp [s1])]
  unfold shE2 whenI
  rw [decide_eq_false (by omega), reachI_far, farB_no (by omega), farB_no (by omega)]
  rfl
theorem SheetIn.list {x y : Int} {c r : Nat} (h : SheetIn x y c r) : sheetL x y c r = shN x y c r := by
  unfold sheetL
  rw [if_pos h.err, Int.toNat_natCast, Int.toNat_natCast]
theorem mS_in {c : Int} (hc : 1 ≤ c ∧ c ≤ 6) : ∀ j : Nat, 0 ≤ mS c j ∧ mS c j ≤ 6 * j
  | 0 => by simp [mS]
  | j + 1 => by
    have := mS_in hc j
    have e : mS c (j + 1) = mS c j + (c - ((j : Int) + 1) % 2) := rfl
    rw [e]
    omega
theorem kS_in {c : Int} (hc : 1 ≤ c ∧ c ≤ 6) : ∀ j : Nat, 0 ≤ kS c j ∧ kS c j ≤ 7 * j
  | 0 => by simp [kS]
  | j + 1 => by
    have := kS_in hc j
    have e : kS c (j + 1) = kS c j + (c + 1 - (j : Int) % 2) := rfl
    rw [e]
    omega
theorem aSheet {x y : Int} {c r : Nat} (h : SheetIn x y c r) (w : World) : Calls Try.prog 14 #[.agg #[.int .i64 x, .int .i64 y], .int .i64 c, .int .i64 r] w (RBE w (shN x y c r) 0) := by
  have := apiSheet_any x y c r w
  rwa [h.err, h.list] at this
end Go.Proofs.Ytpoaomdpcoaolaa

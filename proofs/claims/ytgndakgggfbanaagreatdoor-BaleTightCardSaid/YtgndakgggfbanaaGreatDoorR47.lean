/- BaleGaps, walked. Conditions: the variables are laid. -/
import Derived.Test.YtgndakgggfbanaaGreatDoorR42
import Derived.Test.YtgndakgggfbanaaGreatDoorR44
import Derived.Test.YtgndakgggfbanaaGreatDoorR45
namespace Go.Proofs.YtgndakgggfbanaaGreatDoor
open Go.RowKit Go.ChangeMaps
set_option maxHeartbeats 4000000
set_option maxRecDepth 100000
attribute [local go_sem] Oper.semAt_some
theorem rslP_one {w : World} {x : PnV} {p : Pan} (t : TypeId) (h : PnAt w x p) : SlP (w.alloc (.cells #[sV x.1, .int .i64 x.2.1, slV x.2.2.1, slV x.2.2.2] t)) (.slice (some ⟨w.heap.size, 0, none⟩) 1 1) [p] :=
 ⟨[x], Sl.oneG (enc := pnc) (sz := 4) w _ x _ rfl, h.below (bl_alloc bl_refl _), trivial⟩
theorem rslP_two {w : World} {x y : PnV} {p q : Pan} (t : TypeId) (h : PnAt w x p) (h' : PnAt w y q) : SlP (w.alloc (.cells #[sV x.1, .int .i64 x.2.1, slV x.2.2.1, slV x.2.2.2, sV y.1, .int .i64 y.2.1, slV y.2.2.1, slV y.2.2.2] t)) (.slice (some ⟨w.heap.size, 0, none⟩) 2 2) [p, q] :=
 ⟨[x, y], (own_newG (enc := pnc) (sz := 4) w (Nat.le_refl _) t [x, y] pnc_len (by simp) _ rfl 2 rfl).rd pnc_len, h.below (bl_alloc bl_refl _), h'.below (bl_alloc bl_refl _), trivial⟩
theorem slP_two {W : World} {v : Value} {p q : Pan} (h : SlP W v [p, q]) : ∃ (b off c : Nat) (vL vR uL uR : Value), v = .slice (some ⟨b, off, none⟩) 2 c ∧ b < W.heap.size ∧
  W.cell? ⟨b, off, none⟩ = some (sV p.1) ∧ W.cell? ⟨b, off + 1, none⟩ = some (.int .i64 p.2.1) ∧ W.cell? ⟨b, off + 2, none⟩ = some vL ∧ W.cell? ⟨b, off + 3, none⟩ = some vR ∧
  W.cell? ⟨b, off + 4, none⟩ = some (sV q.1) ∧ W.cell? ⟨b, off + 4 + 1, none⟩ = some (.int .i64 q.2.1) ∧ W.cell? ⟨b, off + 4 + 2, none⟩ = some uL ∧ W.cell? ⟨b, off + 4 + 3, none⟩ = some uR ∧
  SlE W vL p.2.2.1 ∧ SlE W vR p.2.2.2 ∧ SlE W uL q.2.2.1 ∧ SlE W uR q.2.2.2 := by
 obtain ⟨xs, ⟨A, c, rfl, _, _, hr⟩, hx⟩ := h
 obtain ⟨x, y, rfl⟩ : ∃ x y, xs = [x, y] := by
  have := hx.len
  match xs, this with
  | [x, y], _ => exact ⟨x, y, rfl⟩
 obtain ⟨h1, h2, _⟩ := hx
 obtain ⟨b, off, rfl, hlt, a0, a1, a2, a3⟩ := hr.pan (k := 0) rfl
 obtain ⟨b', off', e, _, b0, b1, b2, b3⟩ := hr.pan (k := 1) rfl
 obtain ⟨rfl, rfl⟩ : b = b' ∧ off = off' := by simpa using e
 rw [h1.nm] at a0
 rw [h1.wd] at a1
 rw [h2.nm] at b0
 rw [h2.wd] at b1
 simp only [Nat.zero_mul, Nat.one_mul, Nat.add_zero] at a0 a1 a2 a3 b0 b1 b2 b3
 exact ⟨b, off, c, _, _, _, _, rfl, hlt, a0, a1, a2, a3, b0, b1, b2, b3, h1.left, h1.right, h2.left, h2.right⟩
end Go.Proofs.YtgndakgggfbanaaGreatDoor

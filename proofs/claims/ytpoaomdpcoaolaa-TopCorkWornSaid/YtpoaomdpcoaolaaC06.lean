/- Sets of bars, of the reference; bars mirrored, turned, shifted, walked. Conditions: bars within bounds. -/
import Derived.Test.YtpoaomdpcoaolaaC05
import Derived.Deep.CutRange
namespace Go.Proofs.Ytpoaomdpcoaolaa
open Go.RowKit Go.ChangeMaps
set_option maxHeartbeats 4000000
set_option maxRecDepth 100000

/-- the bars of a list that are not in another one -/
def wout (l a : List Bar) : List Bar := l.filter fun b => !hasb a b
theorem wout_take {l : List Bar} {k : Nat} (hk : k < l.length) (a : List Bar) : wout (l.take (k + 1)) a = wout (l.take k) a ++ if hasb a l[k] then [] else [l[k]] := by
  unfold wout
  rw [List.take_succ_eq_append_getElem hk, List.filter_append]
  cases h : hasb a l[k] <;> simp [h]
theorem wout_len (l a : List Bar) : (wout l a).length ≤ l.length := List.length_filter_le _ _

/-- the bars of a list that are in another one -/
def meetL (l a : List Bar) : List Bar := l.filter fun b => hasb a b
theorem meetL_take {l : List Bar} {k : Nat} (hk : k < l.length) (a : List Bar) : meetL (l.take (k + 1)) a = meetL (l.take k) a ++ if hasb a l[k] then [l[k]] else [] := by
  unfold meetL
  rw [List.take_succ_eq_append_getElem hk, List.filter_append]
  cases h : hasb a l[k] <;> simp [h]
theorem meetL_len (l a : List Bar) : (meetL l a).length ≤ l.length := List.length_filter_le _ _

/-- the bar between two knots -/
def btwB (a b : Knot) : Bar := if b.2 < a.2 then (b.1, b.2, a.1 - b.1) else (a.1, a.2, b.1 - a.1)
def nearK (k : Knot) : Prop := (-1000000 ≤ k.1 ∧ k.1 ≤ 1000000) ∧ (-1000000 ≤ k.2 ∧ k.2 ≤ 1000000)
/-- the mirrored bar -/
def mirB (b : Bar) : Bar := (-b.1, b.2.1, -b.2.2)
theorem map_take {α β : Type} (f : α → β) {l : List α} {k : Nat} (hk : k < l.length) : (l.take (k + 1)).map f = (l.take k).map f ++ [f l[k]] := by
  rw [List.take_succ_eq_append_getElem hk, List.map_append]; rfl
end Go.Proofs.Ytpoaomdpcoaolaa

/- Bars turned, of the reference, walked. Conditions: bars within bounds. -/
namespace Go.Proofs.Ytpoaomdpcoaolaa
open Go.RowKit Go.ChangeMaps
set_option maxHeartbeats 4000000
set_option maxRecDepth 100000

/-- the bar turned by a quarter -/
def turnB (b : Bar) : Bar := btwB (-b.2.1, b.1) (-(b.2.1 + 1), b.1 + b.2.2)
def turF (x y x1 y1 : Int) (n₀ : Nat) (i : Nat) (v : Value) (W : World) : Prop :=
  (i = 4 → v = .agg #[.int .i64 x, .int .i64 y]) ∧ (i = 9 → v = .agg #[.int .i64 x1, .int .i64 y1]) ∧
  ((i = 10 ∨ i = 11) → ∃ g, v = .pointer (some ⟨g, 0, none⟩) ∧ n₀ ≤ g ∧ Blk W g 30 #[.int .i64 0, .int .i64 0])
theorem turF_st (x y x1 y1 : Int) (n₀ : Nat) : ∀ i v W W', turF x y x1 y1 n₀ i v W → Below W.heap.size W W' → turF x y x1 y1 n₀ i v W' := fun i v W W' h hb =>
  ⟨h.1, h.2.1, fun hi => by obtain ⟨g, h1, h0, h2⟩ := h.2.2 hi; exact ⟨g, h1, h0, h2.below hb⟩⟩
/-- a bar shifted -/
def shB (d : Knot) (b : Bar) : Bar := (b.1 + d.1, b.2.1 + d.2, b.2.2)
/-- both ends of a bar are in their range -/
def inB (b : Bar) : Bool := !farB b.1 && !farB b.2.1 && !farB (b.1 + b.2.2) && !farB (b.2.1 + 1)
def allIn (l : List Bar) : Bool := l.all inB
theorem allIn_take {l : List Bar} {f : Bar → Bar} {k : Nat} (hk : k < l.length) : allIn ((l.take (k + 1)).map f) = (allIn ((l.take k).map f) && inB (f l[k])) := by
  rw [map_take f hk]; unfold allIn; rw [List.all_append]; simp
end Go.Proofs.Ytpoaomdpcoaolaa

/- Bars shifted, of the reference, walked. Conditions: bars within bounds. -/
namespace Go.Proofs.Ytpoaomdpcoaolaa
open Go.RowKit Go.ChangeMaps
set_option maxHeartbeats 4000000
set_option maxRecDepth 100000

/-- a row of bars of the call's own and a truth value -/
def RBB (w : World) (l : List Bar) (b : Bool) (e : Ending) (w' : World) : Prop := ∃ v, e = .returned (.tuple #[v, .bool b]) ∧ OwB w.heap.size w' v l ∧ Below w.heap.size w w'
theorem allIn_nil : allIn [] = true := rfl
end Go.Proofs.Ytpoaomdpcoaolaa

/- The knots of a net, of the reference, walked. Conditions: bars within bounds. -/
namespace Go.Proofs.Ytpoaomdpcoaolaa
open Go.RowKit Go.ChangeMaps
set_option maxHeartbeats 4000000
set_option maxRecDepth 100000

def endK (b : Bar) : Nat → Knot
  | 0 => lowK b
  | _ => uppK b
/-- the ends of the bars, one by one -/
def endsL (l : List Bar) : List Knot := l.flatMap fun b => [lowK b, uppK b]
theorem endsL_len (l : List Bar) : (endsL l).length = 2 * l.length := by
  induction l with
  | nil => rfl
  | cons b r ih => simp only [endsL, List.flatMap_cons, List.length_append, List.length_cons, List.length_nil] at ih ⊢; omega
theorem endsL_get : ∀ (l : List Bar) (i : Nat) (b : Bar), l[i / 2]? = some b → (endsL l)[i]? = some (endK b (i % 2))
  | [], i, b, h => by simp at h
  | x :: r, 0, b, h => by
    obtain rfl : x = b := by simpa using h
    rfl
  | x :: r, 1, b, h => by
    obtain rfl : x = b := by simpa using h
    rfl
  | x :: r, i + 2, b, h => by
    have e : (i + 2) / 2 = i / 2 + 1 := by omega
    rw [e, List.getElem?_cons_succ] at h
    have := endsL_get r i b h
    rw [show (i + 2) % 2 = i % 2 by omega]
    simpa [endsL] using this
theorem holeIn_ends : ∀ (l : List Bar) (o : List Knot), holeIn o l = (endsL l).foldl insK o
  | [], o => rfl
  | b :: r, o => by
    show holeIn (insK (insK o (lowK b)) (uppK b)) r = _
    rw [holeIn_ends r]
    rfl
def kIn (l : List Bar) (n : Nat) : List Knot := ((endsL l).take n).foldl insK []
theorem kIn_all {l : List Bar} {n : Nat} (h : 2 * l.length ≤ n) : kIn l n = holeK l := by
  unfold kIn holeK
  rw [holeIn_ends, List.take_of_length_le (by rw [endsL_len]; exact h)]
theorem kIn_succ {l : List Bar} {i : Nat} (h : i / 2 < l.length) : kIn l (i + 1) = insK (kIn l i) (endK l[i / 2] (i % 2)) := by
  have h1 := endsL_get l i l[i / 2] (List.getElem?_eq_getElem h)
  obtain ⟨hi, he⟩ := List.getElem?_eq_some_iff.1 h1
  unfold kIn
  rw [List.take_succ_eq_append_getElem hi, List.foldl_append, he]; rfl
theorem foldK_len : ∀ (m o : List Knot), (m.foldl insK o).length ≤ o.length + m.length
  | [], o => by simp
  | k :: m, o => by
    have h := foldK_len m (insK o k)
    have h1 := insK_len k o
    simp only [List.foldl_cons, List.length_cons]
    omega
theorem kIn_len (l : List Bar) (n : Nat) : (kIn l n).length ≤ 2 * l.length := by
  have := foldK_len ((endsL l).take n) []
  have h2 : ((endsL l).take n).length ≤ (endsL l).length := by rw [List.length_take]; omega
  rw [endsL_len] at h2
  simp only [List.length_nil] at this
  unfold kIn
  omega
end Go.Proofs.Ytpoaomdpcoaolaa

/- How many bars a strip has; an outline, strip by strip, plain. Conditions: none. -/
import Derived.Test.YtpcgeihemkhkjaaGreatDoorS11
import Derived.Test.YtpcgeihemkhkjaaGreatDoorS09
import Derived.Test.YtpcgeihemkhkjaaGreatDoorS04
namespace Go.Proofs.YtpcgeihemkhkjaaGreatDoor
open Go.RowKit Go.ChangeMaps
set_option maxHeartbeats 4000000
set_option maxRecDepth 100000
structure SOk (s : Strp) (y : Int) : Prop where
 left : s.2.2.1 = s.1 ∨ (s.2.2.1 = s.1 - 1 ∨ s.2.2.1 = s.1 + 1) ∧ (s.1 + y) % 2 = 0
 right : s.2.2.2 = s.2.1 ∨ (s.2.2.2 = s.2.1 - 1 ∨ s.2.2.2 = s.2.1 + 1) ∧ (s.2.1 + y) % 2 = 0
 wide : s.1 + 2 ≤ s.2.1 ∧ s.2.2.1 + 2 ≤ s.2.2.2
theorem Zbn (s : Strp) (y x : Int) : ((Z6z s y x).length : Int) = if (x + y) % 2 ≠ 0 then 0 else (if s.2.2.1 ≤ x - 1 ∧ x - 1 ≤ s.2.2.2 then 1 else 0) + (if s.2.2.1 ≤ x + 1 ∧ x + 1 ≤ s.2.2.2 then 1 else 0) := by
 unfold Z6z
 split
 ·rfl
 ·split <;> split <;> simp
def topZ (s : Strp) (y x : Int) : Int := if (x + y) % 2 = 0 then min (x + 1) (max s.2.1 s.2.2.2) else x
theorem Zbo {s : Strp} {y : Int} (h : SOk s y) : ∀ n : Nat, s.1 + n ≤ s.2.1 → ((Z70 s y (n + 1)).length : Int) = topZ s y (s.1 + n) - min s.1 s.2.2.1
 | 0, _ => by
  obtain ⟨hl, hr, hw⟩ := h; obtain ⟨a, b, c, d⟩ := s; simp only at hl hr hw ⊢
  have e : Z70 (a, b, c, d) y (0 + 1) = Z6z (a, b, c, d) y (a + ((0 : Nat) : Int)) := by simp [Z70]
  rw [e, Zbn]; unfold topZ; simp only
  have e0 : a + ((0 : Nat) : Int) = a := by omega
  rw [e0]; by_cases hp : (a + y) % 2 = 0
  ·rw [if_neg (by omega), if_pos hp]
   rw [if_pos (show c ≤ a + 1 ∧ a + 1 ≤ d by omega)]
   split <;> omega
  ·rw [if_pos hp, if_neg hp]
   omega
 | n + 1, hn => by
  have ih := Zbo h n (by omega)
  obtain ⟨hl, hr, hw⟩ := h; obtain ⟨a, b, c, d⟩ := s; simp only at hl hr hw ih hn ⊢
  have e : Z70 (a, b, c, d) y (n + 1 + 1) = Z70 (a, b, c, d) y (n + 1) ++ Z6z (a, b, c, d) y (a + ((n + 1 : Nat) : Int)) := rfl
  rw [e, List.length_append]; push_cast
  rw [ih, Zbn]; unfold topZ; simp only
  by_cases hp : (a + (n : Int) + y) % 2 = 0
  ·rw [if_pos hp, if_pos (show (a + ((n : Int) + 1) + y) % 2 ≠ 0 by omega), if_neg (show ¬ (a + ((n : Int) + 1) + y) % 2 = 0 by omega)]
   omega
  ·rw [if_neg hp, if_neg (show ¬ (a + ((n : Int) + 1) + y) % 2 ≠ 0 by omega), if_pos (show (a + ((n : Int) + 1) + y) % 2 = 0 by omega)]
   rw [if_pos (show c ≤ a + ((n : Int) + 1) - 1 ∧ a + ((n : Int) + 1) - 1 ≤ d by omega)]
   split <;> omega
theorem Zbp {s : Strp} {y : Int} (h : SOk s y) : ((Z71 s y).length : Int) = max s.2.1 s.2.2.2 - min s.1 s.2.2.1 := by
 have h2 := h
 obtain ⟨hl, hr, hw⟩ := h2
 obtain ⟨m, hm⟩ : ∃ m : Nat, s.2.1 - s.1 = m := ⟨(s.2.1 - s.1).toNat, by omega⟩
 have e : (s.2.1 - s.1 + 1).toNat = m + 1 := by omega
 have := Zbo h m (by omega)
 unfold Z71
 rw [e, this]
 unfold topZ
 split <;> omega
theorem Zbq {s : Strp} {y : Int} (h : SOk s y) : 2 * ((Z71 s y).length : Int) = (s.2.1 - s.1 + (s.2.2.2 - s.2.2.1)) + ((if s.2.2.1 ≠ s.1 then 1 else 0) + (if s.2.2.2 ≠ s.2.1 then 1 else 0)) := by
 rw [Zbp h]
 obtain ⟨hl, hr, hw⟩ := h
 split <;> split <;> omega
def sidS (right : Bool) (k : Knot) : List Stp → List (Int × Int)
 | [] => []
 | s :: r => (if s.1 = 78 then [(k.1, k.1), (k.1, k.1)] else if s.1 = 66 then [(k.1, (Z2m right k s).1)] else []) ++ sidS right (Z2m right k s) r
theorem Zbr (right : Bool) : ∀ (l : List Stp) (k : Knot), ((sidS right k l).length : Int) = Z2w l
 | [], _ => rfl
 | s :: r, k => by
  rw [sidS, List.length_append, Z2y]; push_cast
  rw [Zbr right r]; unfold Z2v; split
  ·rfl
  ·split <;> rfl
theorem Zbs (k n : Knot) (r : List Knot) (y : Int) : plcI (k :: n :: r) y = if k.2 ≤ y ∧ y < n.2 then (if n.2 = k.2 + 1 then (k.1, n.1) else (n.1, n.1)) else plcI (n :: r) y := rfl
theorem Zbt (right : Bool) (k : Knot) : ∀ l : List Stp, ∃ r, outK right k l = k :: r
 | [] => ⟨[], rfl⟩
 | s :: r => ⟨outK right (Z2m right k s) r, rfl⟩
theorem Zbu (right : Bool) : ∀ (l : List Stp) (k : Knot) (i : Nat) (hi : i < (sidS right k l).length), plcI (outK right k l) (k.2 + (i : Int)) = (sidS right k l)[i]
 | [], k, i, hi => by simp [sidS] at hi
 | s :: r, k, i, hi => by
  obtain ⟨r', hr'⟩ := Zbt right (Z2m right k s) r
  have ih := Zbu right r (Z2m right k s)
  have e : outK right k (s :: r) = k :: Z2m right k s :: r' := by rw [outK, hr']
  rw [e, Zbs, ← hr']; have hy := Z31 right k s
  unfold Z2v at hy; by_cases h1 : s.1 = 78
  ·rw [if_pos h1] at hy
   have hx : (Z2m right k s).1 = k.1 := by unfold Z2m aft; rw [if_pos h1]
   have es : sidS right k (s :: r) = (k.1, k.1) :: (k.1, k.1) :: sidS right (Z2m right k s) r := by rw [sidS, if_pos h1]; rfl
   match i with
   | 0 =>
    rw [if_pos (by omega), if_neg (by omega), hx]
    simp [es]
   | 1 =>
    rw [if_pos (by omega), if_neg (by omega), hx]
    simp [es]
   | j + 2 =>
    have hj : j < (sidS right (Z2m right k s) r).length := by rw [es] at hi; simpa using hi
    rw [if_neg (by omega), show k.2 + ((j + 2 : Nat) : Int) = (Z2m right k s).2 + (j : Int) by omega, ih j hj]
    simp [es]
  ·rw [if_neg h1] at hy
   by_cases h2 : s.1 = 66
   ·rw [if_pos h2] at hy
    have es : sidS right k (s :: r) = (k.1, (Z2m right k s).1) :: sidS right (Z2m right k s) r := by rw [sidS, if_neg h1, if_pos h2]; rfl
    match i with
    | 0 =>
     rw [if_pos (by omega), if_pos (by omega)]
     simp [es]
    | j + 1 =>
     have hj : j < (sidS right (Z2m right k s) r).length := by rw [es] at hi; simpa using hi
     rw [if_neg (by omega), show k.2 + ((j + 1 : Nat) : Int) = (Z2m right k s).2 + (j : Int) by omega, ih j hj]
     simp [es]
   ·rw [if_neg h2] at hy
    have es : sidS right k (s :: r) = sidS right (Z2m right k s) r := by rw [sidS, if_neg h1, if_neg h2]; rfl
    have hj : i < (sidS right (Z2m right k s) r).length := by rw [es] at hi; exact hi
    rw [if_neg (by omega), show k.2 + (i : Int) = (Z2m right k s).2 + (i : Int) by omega, ih i hj]
    simp [es]
theorem Zbv (right : Bool) : ∀ (l : List Stp) (k : Knot) (_ : (k.1 + k.2) % 2 = 0) (i : Nat) (hi : i < (sidS right k l).length),
  (sidS right k l)[i].2 = (sidS right k l)[i].1 ∨ ((sidS right k l)[i].2 = (sidS right k l)[i].1 - 1 ∨ (sidS right k l)[i].2 = (sidS right k l)[i].1 + 1) ∧ ((sidS right k l)[i].1 + (k.2 + (i : Int))) % 2 = 0
 | [], k, _, i, hi => by simp [sidS] at hi
 | s :: r, k, hk, i, hi => by
  have hy := Z31 right k s
  unfold Z2v at hy; by_cases h1 : s.1 = 78
  ·rw [if_pos h1] at hy
   have hx : (Z2m right k s).1 = k.1 := by unfold Z2m aft; rw [if_pos h1]
   have ih := Zbv right r (Z2m right k s) (by omega)
   have es : sidS right k (s :: r) = (k.1, k.1) :: (k.1, k.1) :: sidS right (Z2m right k s) r := by rw [sidS, if_pos h1]; rfl
   match i with
   | 0 => left; simp [es]
   | 1 => left; simp [es]
   | j + 2 =>
    have hj : j < (sidS right (Z2m right k s) r).length := by rw [es] at hi; simpa using hi
    have := ih j hj
    simp only [es, List.getElem_cons_succ]; rw [show k.2 + ((j + 2 : Nat) : Int) = (Z2m right k s).2 + (j : Int) by omega]
    exact this
  ·rw [if_neg h1] at hy
   by_cases h2 : s.1 = 66
   ·rw [if_pos h2] at hy
    have hx : (Z2m right k s).1 = k.1 - 1 ∨ (Z2m right k s).1 = k.1 + 1 := by
     unfold Z2m aft Z2l; rw [if_neg h1, if_pos h2]; simp only
     split
     ·exact .inr rfl
     ·exact .inl (by omega)
    have ih := Zbv right r (Z2m right k s) (by omega)
    have es : sidS right k (s :: r) = (k.1, (Z2m right k s).1) :: sidS right (Z2m right k s) r := by rw [sidS, if_neg h1, if_pos h2]; rfl
    match i with
    | 0 =>
     right
     simp only [es, List.getElem_cons_zero]; exact ⟨hx, by simpa using hk⟩
    | j + 1 =>
     have hj : j < (sidS right (Z2m right k s) r).length := by rw [es] at hi; simpa using hi
     have := ih j hj
     simp only [es, List.getElem_cons_succ]; rw [show k.2 + ((j + 1 : Nat) : Int) = (Z2m right k s).2 + (j : Int) by omega]
     exact this
   ·rw [if_neg h2] at hy
    have hx : (Z2m right k s).1 = k.1 - 2 ∨ (Z2m right k s).1 = k.1 + 2 := by
     unfold Z2m aft Z2l; rw [if_neg h1, if_neg h2]; simp only
     split
     ·exact .inr (by omega)
     ·exact .inl (by omega)
    have ih := Zbv right r (Z2m right k s) (by omega)
    have es : sidS right k (s :: r) = sidS right (Z2m right k s) r := by rw [sidS, if_neg h1, if_neg h2]; rfl
    have hj : i < (sidS right (Z2m right k s) r).length := by rw [es] at hi; exact hi
    have := ih i hj
    simp only [es]; rw [show k.2 + (i : Int) = (Z2m right k s).2 + (i : Int) by omega]
    exact this
theorem Zbw (right : Bool) : ∀ (l : List Stp) (k : Knot), ((sidS right k l).map fun x => if x.2 ≠ x.1 then (1 : Int) else 0).sum = ((l.map (·.1)).count 66 : Nat)
 | [], _ => rfl
 | s :: r, k => by
  have ih := Zbw right r (Z2m right k s)
  rw [sidS, List.map_append, List.sum_append, ih, List.map_cons, List.count_cons]; by_cases h1 : s.1 = 78
  ·rw [if_pos h1, if_neg (by rw [h1]; decide)]
   simp
  ·rw [if_neg h1]
   by_cases h2 : s.1 = 66
   ·rw [if_pos h2, if_pos (by rw [h2]; rfl)]
    have hx : (Z2m right k s).1 ≠ k.1 := by
     unfold Z2m aft Z2l; rw [if_neg h1, if_pos h2]; simp only
     split <;> omega
    simp [hx]
    omega
   ·rw [if_neg h2, if_neg (by simpa using h2)]
    simp
def hits (row : Int) : Int → List Knot → Int → Prop
 | _, [], _ => False
 | y, k :: r, X => (hitR row y k = true ∧ k.1 = X) ∨ hits row k.2 r X
theorem Zbx (row : Int) : ∀ (l : List Knot) (y : Int) (a : Int × Int), (Z6p row y l a).1 ≤ a.1 ∧ a.2 ≤ (Z6p row y l a).2
 | [], _, _ => ⟨Int.le_refl _, Int.le_refl _⟩
 | k :: r, y, a => by
  have ih := Zbx row r k.2 (if hitR row y k then Z6o a k.1 else a)
  rw [Z6p]; by_cases hq : hitR row y k = true
  ·rw [if_pos hq] at ih ⊢
   obtain ⟨t1, t2⟩ := ih; have t3 : (Z6p row k.2 r (Z6o a k.1)).1 ≤ min a.1 k.1 := t1
   have t4 : max a.2 k.1 ≤ (Z6p row k.2 r (Z6o a k.1)).2 := t2
   omega
  ·rw [if_neg hq] at ih ⊢
   exact ih
theorem Zby (row : Int) : ∀ (l : List Knot) (y : Int) (a : Int × Int) (X : Int), hits row y l X → (Z6p row y l a).1 ≤ X ∧ X ≤ (Z6p row y l a).2
 | [], _, _, _, h => h.elim
 | k :: r, y, a, X, h => by
  rw [Z6p]; rcases h with ⟨h1, h2⟩ | h
  ·have := Zbx row r k.2 (if hitR row y k then Z6o a k.1 else a)
   rw [if_pos h1] at this ⊢; obtain ⟨t1, t2⟩ := this; have t3 : (Z6p row k.2 r (Z6o a k.1)).1 ≤ min a.1 k.1 := t1
   have t4 : max a.2 k.1 ≤ (Z6p row k.2 r (Z6o a k.1)).2 := t2
   omega
  ·exact Zby row r k.2 _ X h
theorem Zbz {row X : Int} {k : Knot} {r : List Knot} (h : hits row k.2 (k :: r) X) : (rchI (k :: r) row).1 ≤ X ∧ X ≤ (rchI (k :: r) row).2 := Zby row (k :: r) k.2 Z6q X h
theorem Zc0 {row y X : Int} {n : Knot} {r : List Knot} (h : hits row n.2 (n :: r) X) : hits row y (n :: r) X := by
 rcases h with ⟨h1, h2⟩ | h
 ·refine .inl ⟨?_, h2⟩
  unfold hitR at h1 ⊢; simp only [decide_eq_true_eq] at h1 ⊢; omega
 ·exact .inr h
theorem Zc1 {row y : Int} {k : Knot} (h : k.2 = row) : hitR row y k = true := by unfold hitR; exact decide_eq_true (.inl h)
theorem Zc2 {row y : Int} {k : Knot} (h : y < row) (h2 : row < k.2) : hitR row y k = true := by unfold hitR; exact decide_eq_true (.inr ⟨h, h2⟩)
theorem Zc3 (right : Bool) : ∀ (l : List Stp) (k : Knot) (i : Nat) (hi : i < (sidS right k l).length),
  hits (k.2 + (i : Int)) k.2 (outK right k l) (sidS right k l)[i].1 ∧ hits (k.2 + (i : Int) + 1) k.2 (outK right k l) (sidS right k l)[i].2
 | [], k, i, hi => by simp [sidS] at hi
 | s :: r, k, i, hi => by
  obtain ⟨r', hr'⟩ := Zbt right (Z2m right k s) r
  have ih := Zc3 right r (Z2m right k s)
  rw [outK, hr']; rw [hr'] at ih; have hy := Z31 right k s
  unfold Z2v at hy; by_cases h1 : s.1 = 78
  ·rw [if_pos h1] at hy
   have hx : (Z2m right k s).1 = k.1 := by unfold Z2m aft; rw [if_pos h1]
   have es : sidS right k (s :: r) = (k.1, k.1) :: (k.1, k.1) :: sidS right (Z2m right k s) r := by rw [sidS, if_pos h1]; rfl
   match i with
   | 0 =>
    simp only [es, List.getElem_cons_zero]; exact ⟨.inl ⟨Zc1 (by omega), rfl⟩, .inr (.inl ⟨Zc2 (by omega) (by omega), hx⟩)⟩
   | 1 =>
    simp only [es, List.getElem_cons_succ, List.getElem_cons_zero]; exact ⟨.inr (.inl ⟨Zc2 (by omega) (by omega), hx⟩), .inr (.inl ⟨Zc1 (by omega), hx⟩)⟩
   | j + 2 =>
    have hj : j < (sidS right (Z2m right k s) r).length := by rw [es] at hi; simpa using hi
    obtain ⟨i1, i2⟩ := ih j hj
    simp only [es, List.getElem_cons_succ]; rw [show k.2 + ((j + 2 : Nat) : Int) = (Z2m right k s).2 + (j : Int) by omega]
    exact ⟨.inr (Zc0 i1), .inr (Zc0 i2)⟩
  ·rw [if_neg h1] at hy
   by_cases h2 : s.1 = 66
   ·rw [if_pos h2] at hy
    have es : sidS right k (s :: r) = (k.1, (Z2m right k s).1) :: sidS right (Z2m right k s) r := by rw [sidS, if_neg h1, if_pos h2]; rfl
    match i with
    | 0 =>
     simp only [es, List.getElem_cons_zero]; exact ⟨.inl ⟨Zc1 (by omega), rfl⟩, .inr (.inl ⟨Zc1 (by omega), rfl⟩)⟩
    | j + 1 =>
     have hj : j < (sidS right (Z2m right k s) r).length := by rw [es] at hi; simpa using hi
     obtain ⟨i1, i2⟩ := ih j hj
     simp only [es, List.getElem_cons_succ]; rw [show k.2 + ((j + 1 : Nat) : Int) = (Z2m right k s).2 + (j : Int) by omega]
     exact ⟨.inr (Zc0 i1), .inr (Zc0 i2)⟩
   ·rw [if_neg h2] at hy
    have es : sidS right k (s :: r) = sidS right (Z2m right k s) r := by rw [sidS, if_neg h1, if_neg h2]; rfl
    have hj : i < (sidS right (Z2m right k s) r).length := by rw [es] at hi; exact hi
    obtain ⟨i1, i2⟩ := ih i hj
    simp only [es]; rw [show k.2 + (i : Int) = (Z2m right k s).2 + (i : Int) by omega]
    exact ⟨.inr (Zc0 i1), .inr (Zc0 i2)⟩
def sidP (p : Pan) (right : Bool) : List (Int × Int) := sidS right (Z34 p right) (stpL (Z33 p right))
theorem Zc4 (p : Pan) (right : Bool) : (Z34 p right).2 = 0 := by unfold Z34; split <;> rfl
theorem Zc5 {p : Pan} (h : Zas p) (right : Bool) : ((sidP p right).length : Int) = Z35 p := by
 unfold sidP
 rw [Zbr]
 cases right
 ·rfl
 ·exact h.same
theorem Zc6 (p : Pan) (right : Bool) (i : Nat) (hi : i < (sidP p right).length) : plcI (outP p right) (i : Int) = (sidP p right)[i] := by
 have := Zbu right (stpL (Z33 p right)) (Z34 p right) i hi
 rw [Zc4, Int.zero_add] at this
 exact this
theorem Zc7 {p : Pan} (h : Zas p) (y : Nat) (hy : (y : Int) ≤ Z35 p) : (rchI (outP p false) (y : Nat)).2 + 2 ≤ (rchI (outP p true) (y : Nat)).1 := by
 have hf := h.free
 unfold Z73 at hf
 rw [List.any_eq_false] at hf
 have := hf y (List.mem_range.2 (by omega))
 simp only [decide_eq_true_eq] at this
 omega
theorem Zc8 (p : Pan) (right : Bool) (i : Nat) (hi : i < (sidP p right).length) :
  ((rchI (outP p right) (i : Int)).1 ≤ (sidP p right)[i].1 ∧ (sidP p right)[i].1 ≤ (rchI (outP p right) (i : Int)).2) ∧ ((rchI (outP p right) ((i + 1 : Nat) : Int)).1 ≤ (sidP p right)[i].2 ∧ (sidP p right)[i].2 ≤ (rchI (outP p right) ((i + 1 : Nat) : Int)).2) := by
 obtain ⟨h1, h2⟩ := Zc3 right (stpL (Z33 p right)) (Z34 p right) i hi
 obtain ⟨r, hr⟩ := Zbt right (Z34 p right) (stpL (Z33 p right))
 unfold outP
 rw [hr] at h1 h2 ⊢
 have g1 := Zbz h1
 have g2 := Zbz h2
 rw [Zc4, Int.zero_add] at g1 g2
 exact ⟨g1, by push_cast; exact g2⟩
theorem Zc9 {p : Pan} (i : Nat) (hi : i < (Z6y p).length) (h1 : i < (sidP p false).length) (h2 : i < (sidP p true).length) :
  (Z6y p)[i] = ((sidP p false)[i].1, (sidP p true)[i].1, (sidP p false)[i].2, (sidP p true)[i].2) := by
 have e : (Z6y p)[i] = strI (outP p false) (outP p true) ((i : Nat) : Int) := by simp [Z6y]
 rw [e]
 unfold strI
 rw [Zc6 p false i h1, Zc6 p true i h2]
theorem Zca {p : Pan} (h : Zas p) : (sidP p false).length = (Z6y p).length ∧ (sidP p true).length = (Z6y p).length := by
 have h1 := Zc5 h false
 have h2 := Zc5 h true
 have h3 := Zb3 p
 have h4 := h.high
 omega
theorem Zcb {p : Pan} (h : Zas p) (i : Nat) (hi : i < (Z6y p).length) : SOk (Z6y p)[i] (i : Int) := by
 obtain ⟨e1, e2⟩ := Zca h
 have h1 : i < (sidP p false).length := by omega
 have h2 : i < (sidP p true).length := by omega
 rw [Zc9 i hi h1 h2]
 have hh := Zb3 p
 have h4 := h.high
 have o1 := Zbv false (stpL (Z33 p false)) (Z34 p false) (by unfold Z34; simp) i h1
 have o2 := Zbv true (stpL (Z33 p true)) (Z34 p true) (by unfold Z34; simp) i h2
 rw [Zc4, Int.zero_add] at o1 o2
 have w1 := Zc7 h i (by omega)
 have w2 := Zc7 h (i + 1) (by omega)
 obtain ⟨⟨_, a1⟩, _, a2⟩ := Zc8 p false i h1
 obtain ⟨⟨b1, _⟩, b2, _⟩ := Zc8 p true i h2
 refine ⟨o1, o2, ?_⟩
 simp only
 omega
def bqS (s : Strp) : Int := (if s.2.2.1 ≠ s.1 then 1 else 0) + (if s.2.2.2 ≠ s.2.1 then 1 else 0)
theorem Zcc {l : List Strp} (h : ∀ i (hi : i < l.length), SOk l[i] (i : Int)) : ∀ n, n ≤ l.length → 2 * ((netN l n).length : Int) = Z72 (l.take n) + ((l.take n).map bqS).sum
 | 0, _ => by simp [netN, Z72]
 | n + 1, hn => by
  have ih := Zcc h n (by omega)
  have hs := Zbq (h n (by omega))
  have e : l.getD n (0, 0, 0, 0) = l[n] := by rw [List.getD_eq_getElem?_getD, List.getElem?_eq_getElem (by omega)]; rfl
  rw [netN, List.length_append, e]; push_cast
  rw [Zb5 (by omega), List.take_succ_eq_append_getElem (by omega), List.map_append, List.sum_append]
  simp only [List.map_cons, List.map_nil, List.sum_cons, List.sum_nil]; unfold bqS at ih ⊢; omega
theorem Zcd : ∀ (a b : List Int) (c : List Int), a.length = c.length → b.length = c.length → (∀ i (h1 : i < a.length) (h2 : i < b.length) (h3 : i < c.length), c[i] = a[i] + b[i]) → c.sum = a.sum + b.sum
 | [], [], [], _, _, _ => rfl
 | x :: a, y :: b, z :: c, h1, h2, h => by
  have ih := Zcd a b c (by simpa using h1) (by simpa using h2) (fun i q1 q2 q3 => by
   have := h (i + 1) (by simpa using q1) (by simpa using q2) (by simpa using q3)
   simpa using this)
  have h0 := h 0 (by simp) (by simp) (by simp)
  simp only [List.getElem_cons_zero] at h0; simp only [List.sum_cons]; omega
 | [], _, _ :: _, h, _, _ => by simp at h
 | _ :: _, _, [], h, _, _ => by simp at h
 | _, [], _ :: _, _, h, _ => by simp at h
 | _, _ :: _, [], _, h, _ => by simp at h
theorem Zce {p : Pan} (h : Zas p) : 2 * ((netL p).length : Int) = Z72 (Z6y p) + (((stpL p.2.2.1 ++ stpL p.2.2.2).map (·.1)).count 66 : Nat) := by
 have ht := Zcc (l := Z6y p) (Zcb h) (Z6y p).length (Nat.le_refl _)
 rw [List.take_length] at ht
 have e := ht
 unfold netL
 rw [e]
 congr 1
 obtain ⟨e1, e2⟩ := Zca h
 have b1 := Zbw false (stpL (Z33 p false)) (Z34 p false)
 have b2 := Zbw true (stpL (Z33 p true)) (Z34 p true)
 have hs := Zcd ((sidP p false).map fun x => if x.2 ≠ x.1 then (1 : Int) else 0) ((sidP p true).map fun x => if x.2 ≠ x.1 then (1 : Int) else 0) ((Z6y p).map bqS) (by simpa using e1) (by simpa using e2) (fun i h1 h2 h3 => by
  simp only [List.length_map] at h1 h2 h3; rw [List.getElem_map, List.getElem_map, List.getElem_map, Zc9 i h3 h1 h2]; rfl)
 rw [hs]
 unfold sidP
 rw [b1, b2, List.map_append, List.count_append]
 push_cast
 rfl
attribute [local go_sem] Oper.semAt_some
theorem Zcf (e : Edg) (w : World) (hl : e.1.length ≤ 1000000) : Calls Tryz.prog 193 #[.agg #[sV e.1, .int .i64 e.2.1, .bool e.2.2]] w (RV w (.int .i64 (edgE e))) := by
 obtain ⟨s, t, o⟩ := e
 simp only at hl ⊢
 by_cases h0 : s = []
 ·have HE : Hid (edgE (s, t, o) = 12) := by unfold Hid edgE; rw [decide_eq_true h0]; rfl
  obtain ⟨E, hE⟩ : ∃ E, edgE (s, t, o) = E := ⟨_, rfl⟩
  rw [hE] at HE ⊢; subst h0; have hK := (Blk.new w 132 #[.string ⟨#[]⟩, .int .i64 t, .bool o]).facts
  unfold sV; clear hE; go_enter Tryz.func193, Tryz.ntmps193
  go_wp2; go_ret; exact ⟨by rw [HE.out]; rfl, by (repeat first|exact J0|assumption|(apply J1;assumption)|apply J2|apply J3|apply J4)⟩
 obtain ⟨B, hB⟩ : ∃ B : ByteArray, ({ data := s.toArray } : ByteArray) = B := ⟨_, rfl⟩
 have hsz : B.size = s.length := by rw [← hB]; rfl
 have hBl : B.toList = s := by rw [← hB]; simp [ByteArray.toList_eq]
 have g1 : (B.toList == []) = false := by rw [hBl]; cases s <;> simp_all
 have g2 : B.toList.isEmpty = false := by rw [hBl]; cases s <;> simp_all
 have g3 : (B.toList = []) = False := by rw [hBl]; simpa using h0
 have hget : ∀ k (h : k < s.length), (B[k]'(by rw [hsz]; exact h)) = s[k] := fun k h => by subst hB; rfl
 have hK := Blk.new w 132 #[.string B, .int .i64 t, .bool o]
 have fK := hK.facts
 have HGt := Lib.hid hget
 by_cases h64 : 64 < s.length
 ·have HE : Hid (edgE (s, t, o) = 26) := by unfold Hid edgE; rw [decide_eq_false h0, decide_eq_true h64]; rfl
  obtain ⟨E, hE⟩ : ∃ E, edgE (s, t, o) = E := ⟨_, rfl⟩
  rw [hE] at HE ⊢; have t1 : (64 < (s.length : Int)) = True := eq_true (by omega)
  unfold sV; rw [hB]; clear hE hB hBl h0 h64 hget; go_enter Tryz.func193, Tryz.ntmps193
  go_wp2; go_ret; exact ⟨by rw [HE.out]; rfl, by (repeat first|exact J0|assumption|(apply J1;assumption)|apply J2|apply J3|apply J4)⟩
 have HE : Hid (edgE (s, t, o) = Z17 [Z15 (Z36 s) 1, Z16 t 1 64]) := by unfold Hid edgE; rw [decide_eq_false h0, decide_eq_false h64]; rfl
 obtain ⟨E, hE⟩ : ∃ E, edgE (s, t, o) = E := ⟨_, rfl⟩
 rw [hE] at HE ⊢
 have t1 : (64 < (s.length : Int)) = False := eq_false (by omega)
 unfold sV
 rw [hB]
 clear hE hB hBl h0 h64 hget
 go_enter Tryz.func193, Tryz.ntmps193
 go_wp2
 obtain ⟨w1, hw1⟩ : ∃ X, w.alloc (.cells #[.string B, .int .i64 t, .bool o] 132) = X := ⟨_, rfl⟩
 have hb1 : Below w.heap.size w w1 := by rw [← hw1]; exact Z04 Z03 _
 rw [hw1] at hK fK ⊢
 clear hw1
 go_loopw [3] (fun i wr => ∃ k : Nat, k ≤ s.length ∧ i = .int .i64 k ∧ Hid (Z36 (s.take k) = false) ∧ wr = w1) (fun i _ => s.length - (intOf i).toNat)
 case atStart => exact ⟨0, Nat.zero_le _, rfl, rfl, rfl⟩
 case round =>
  obtain ⟨k, hk, rfl, H, rfl⟩ := hrel; by_cases hlt : k < s.length
  ·have hp : k < B.size := by omega
   have HW := Lib.hid (Z8x hlt)
   have HI := Lib.hid (Z8y hlt)
   have HO := Lib.hid (Z8z s[k])
   obtain ⟨n, hn⟩ : ∃ n : Nat, (B[k]'hp).toNat = n := ⟨_, rfl⟩
   have hnb : n < 256 := by rw [← hn]; exact UInt8.toNat_lt _
   have hg : s[k].toNat = n := by rw [← hn, HGt.out k hlt]
   rw [hg] at HO; clear hg; by_cases h1 : n = 78 ∨ n = 66 ∨ n = 84
   ·have hn2 : okN n = true := by unfold okN; rcases h1 with rfl | rfl | rfl <;> rfl
    have HT : Hid (Z36 (s.take (k + 1)) = false) := by unfold Hid; rw [HW.out, H.out, HO.out, hn2]; rfl
    clear hn2; rcases h1 with rfl | rfl | rfl
    all_goals
     go_wp2; go_roundw; case rel => exact ⟨k + 1, by omega, by go_num, HT.out, trivial⟩
     case measure => simp [intOf]; omega
   ·have c1 : ((n : Int) != 78) = true := by rw [bne_iff_ne]; omega
    have c2 : ((n : Int) != 66) = true := by rw [bne_iff_ne]; omega
    have c3 : ((n : Int) != 84) = true := by rw [bne_iff_ne]; omega
    have hn2 : okN n = false := by
     unfold okN; rw [decide_eq_false (by omega), decide_eq_false (by omega), decide_eq_false (by omega)]
     rfl
    have HT : Hid (E = 1) := by unfold Hid; rw [HE.out, HI.out (by rw [HO.out, hn2])]; rfl
    clear h1 hn2; go_wp2; go_ret; exact ⟨by rw [HT.out]; rfl, hb1⟩
  ·obtain rfl : k = s.length := by omega
   have HT : Hid (E = Z16 t 1 64) := by
    unfold Hid; have h := H.out
    rw [List.take_length] at h; rw [HE.out, h]; unfold Z15; simp only [Z17, Bool.false_eq_true, if_false]; split <;> simp_all
   go_wp2_with (go_at_call 81; refine (Z5a t 1 64 _).mono ?_; rintro e w2 ⟨rfl, hb2⟩)
   go_ret; exact ⟨by rw [HT.out]; rfl, by (repeat first|exact J0|assumption|(apply J1;assumption)|apply J2|apply J3|apply J4)⟩
theorem Zcg {v : Value} (l : List Edg) (w : World) (h : SlE w v l) (hwd : ∀ e ∈ l, e.1.length ≤ 1000000) : Calls Tryz.prog 137 #[v] w (RV w (.int .i64 (Z38 l))) := by
 obtain ⟨A, c, rfl, hlc, hcm, hr⟩ := h
 have hl : l.length ≤ maxLen := Nat.le_trans hlc hcm
 unfold maxLen at hl
 by_cases h64 : 64 < l.length
 ·have HS : Hid (Z38 l = 5) := by unfold Hid Z38; rw [if_pos h64]
  go_enter Tryz.func137, Tryz.ntmps137
  go_wp2; go_ret; exact ⟨by rw [HS.out]; rfl, by (repeat first|exact J0|assumption|(apply J1;assumption)|apply J2|apply J3|apply J4)⟩
 have HS : Hid (Z38 l = Z37 l 0) := by unfold Hid Z38; rw [if_neg h64]
 have t1 : (64 < (l.length : Int)) = False := eq_false (by omega)
 have h65 : l.length ≤ 64 := by omega
 clear h64
 go_enter Tryz.func137, Tryz.ntmps137
 go_wp2
 go_loopw [3, 4] (fun n i wr => ∃ (k : Nat) (m : Int), k ≤ l.length ∧ i = .int .i64 k ∧ n = .int .i64 m ∧ (0 ≤ m ∧ m ≤ 4096 * (k : Int)) ∧ Hid (Z37 l 0 = Z37 (l.drop k) m) ∧ Below w.heap.size w wr) (fun _ i _ => l.length - (intOf i).toNat)
 case atStart => exact ⟨0, 0, Nat.zero_le _, rfl, rfl, by omega, rfl, by (repeat first|exact J0|assumption|(apply J1;assumption)|apply J2|apply J3|apply J4)⟩
 case round =>
  obtain ⟨k, m, hk, rfl, rfl, hm, H, hbw⟩ := hrel; obtain ⟨wo, rfl⟩ : ∃ x, x = wr := ⟨_, rfl⟩
  by_cases hlt : k < l.length
  ·obtain ⟨b, off, rfl, hb, e0, e1, e2⟩ := (hr.below hbw).edge hlt
   have HD := Lib.hid (Z92 hlt m)
   have HM := Lib.hid (Z91 l[k])
   have HZ := Lib.hid (Z39 (e := l[k]))
   have HC := fun W => Zcf l[k] W (hwd _ (List.getElem_mem hlt))
   obtain ⟨⟨s, t, o⟩, hx⟩ : ∃ z, l[k] = z := ⟨_, rfl⟩
   rw [hx] at e0 e1 e2 HD HM HZ HC; simp only at e0 e1 e2 HC
   unfold sV at HC; obtain ⟨E, hE⟩ : ∃ E, edgE (s, t, o) = E := ⟨_, rfl⟩
   rw [hE] at HC HD HM HZ; clear hx hE; go_wp2_with fail; refine (HC _).mono ?_
   rintro e w2 ⟨rfl, hb2⟩; have hbw2 : Below w.heap.size w w2 := by (repeat first|exact J0|assumption|(apply J1;assumption)|apply J2|apply J3|apply J4)
   have x0 : w2.cell? ⟨b, off + k * 3, none⟩ = some (.string ⟨s.toArray⟩) := (hb2.cell (p := ⟨b, off + k * 3, none⟩) hb).trans e0
   have x1 : w2.cell? ⟨b, off + k * 3 + 1, none⟩ = some (.int .i64 t) := (hb2.cell (p := ⟨b, off + k * 3 + 1, none⟩) hb).trans e1
   have hbl2 : b < w2.heap.size := Nat.lt_of_lt_of_le hb hb2.size
   by_cases hE0 : E = 0
   ·have hE' : (E != 0) = false := by simp [hE0]
    obtain ⟨_, q2, _, q4, q5⟩ := HZ.out hE0
    have q2' : s.length ≤ 64 := q2
    have q4' : 1 ≤ t := q4
    have q5' : t ≤ 64 := q5
    clear q2 q4 q5
    have hmul : 0 ≤ (s.length : Int) * t ∧ (s.length : Int) * t ≤ 64 * 64 := by
     obtain ⟨tn, rfl⟩ : ∃ tn : Nat, t = tn := ⟨t.toNat, by omega⟩
     have := Nat.mul_le_mul q2' (show tn ≤ 64 by omega)
     exact ⟨Int.mul_nonneg (by omega) (by omega), by exact_mod_cast this⟩
    obtain ⟨P, hP⟩ : ∃ P, (s.length : Int) * t = P := ⟨_, rfl⟩
    have hsz : (({ data := s.toArray } : ByteArray)).size = s.length := rfl
    rw [hP] at hmul
    have HN : Hid (Z37 l 0 = Z37 (l.drop (k + 1)) (m + P)) := by
     unfold Hid; rw [H.out, HD.out, if_pos hE0, ← hP]
    clear hE0 e0 e1 e2 hb; go_upto_region 10 with fail; refine Z0z [0, 1, 2, 3, 4, 5, 6, 7, 8, 9, 10, 11, 12, 13, 14] [] [] (by kernel_rfl) (by kernel_rfl) (fun d _ _ _ _ h => by cases d <;> exact h) ?_
    simp only [List.map_cons, List.map_nil, List.getD_cons_zero, List.getD_cons_succ]; repeat (go_big_quiet_step (fail))
    refine wpQuiet_nil ?_; refine Z10 ?_; go_wp2; go_roundw; case rel => exact ⟨k + 1, m + P, by omega, by go_num, rfl, by push_cast; omega, HN.out, by (repeat first|exact J0|assumption|(apply J1;assumption)|apply J2|apply J3|apply J4)⟩
    case measure => simp [intOf]; omega
   ·have hE' : (E != 0) = true := by simp [hE0]
    have HN : Hid (Z37 l 0 = E) := by unfold Hid; rw [H.out, HD.out, if_neg hE0]
    clear hE0; go_wp2; go_ret; exact ⟨by rw [HS.out, HN.out]; rfl, hbw2⟩
  ·obtain rfl : k = l.length := by omega
   have HN : Hid (Z37 l 0 = Z15 (decide (512 < m)) 5) := by unfold Hid; rw [H.out, List.drop_length]; rfl
   by_cases h5 : 512 < m
   ·have HN2 : Hid (Z37 l 0 = 5) := by unfold Hid; rw [HN.out, decide_eq_true h5]; rfl
    go_wp2; go_ret; exact ⟨by rw [HS.out, HN2.out]; rfl, by (repeat first|exact J0|assumption|(apply J1;assumption)|apply J2|apply J3|apply J4)⟩
   ·have HN2 : Hid (Z37 l 0 = 0) := by unfold Hid; rw [HN.out, decide_eq_false h5]; rfl
    go_wp2; go_ret; exact ⟨by rw [HS.out, HN2.out]; rfl, by (repeat first|exact J0|assumption|(apply J1;assumption)|apply J2|apply J3|apply J4)⟩
end Go.Proofs.YtpcgeihemkhkjaaGreatDoor

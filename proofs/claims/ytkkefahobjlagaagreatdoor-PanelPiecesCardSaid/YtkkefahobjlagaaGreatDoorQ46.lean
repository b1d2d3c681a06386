/- Panels, plain: plain forms. Conditions: none. -/
import Derived.Test.YtkkefahobjlagaaGreatDoorQ02
import Derived.Test.YtkkefahobjlagaaGreatDoorQ45
import Derived.Test.YtkkefahobjlagaaGreatDoorQ23
import Derived.Test.YtkkefahobjlagaaGreatDoorQ25
namespace Go.Proofs.YtkkefahobjlagaaGreatDoor
open Go.RowKit Go.ChangeMaps
set_option maxHeartbeats 4000000
set_option maxRecDepth 100000
def ownW (x : Stp) : Int := if x.1 = 78 then 0 else if x.2 then 1 else -1
abbrev PlS := List Edg × List UInt8 × Int
def flS (s : PlS) : PlS := (if s.2.1 = [] then s.1 else s.1 ++ [(s.2.1, 1, decide (0 < s.2.2))], [], 0)
def cutS (s : PlS) (x : Stp) : Bool := decide (s.2.1.length = 64) || decide (ownW x * s.2.2 < 0)
def putS (s : PlS) (x : Stp) : PlS := (s.1, s.2.1 ++ [x.1], if ownW x ≠ 0 then ownW x else s.2.2)
def plS (s : PlS) (x : Stp) : PlS := putS (if cutS s x then flS s else s) x
def plF (l : List Stp) : PlS := l.foldl plS ([], [], 0)
def plnL (l : List Stp) : List Edg := (flS (plF l)).1
theorem plF_snoc (l : List Stp) (x : Stp) : plF (l ++ [x]) = plS (plF l) x := by unfold plF; rw [List.foldl_append]; rfl
theorem ownW_range (x : Stp) : ownW x = 0 ∨ ownW x = 1 ∨ ownW x = -1 := by
 unfold ownW
 split
 ·exact .inl rfl
 ·split
  ·exact .inr (.inl rfl)
  ·exact .inr (.inr rfl)
structure PlOk (s : PlS) : Prop where
 way : s.2.2 = 0 ∨ s.2.2 = 1 ∨ s.2.2 = -1
 len : s.2.1.length ≤ 64
theorem plS_ok {s : PlS} (h : PlOk s) (x : Stp) : PlOk (plS s x) ∧ (plS s x).2.1 ≠ [] := by
 have hx := ownW_range x
 unfold plS putS
 refine ⟨⟨?_, ?_⟩, by simp⟩
 ·simp only
  split
  ·exact hx
  ·split
   ·exact .inl rfl
   ·exact h.way
 ·simp only
  split
  ·simp [flS]
  ·rename_i hc
   have : s.2.1.length ≠ 64 := fun e => hc (by unfold cutS; simp [e])
   have := h.len
   simp
   omega
theorem plGo_ok : ∀ (l : List Stp) (s : PlS), PlOk s → PlOk (l.foldl plS s)
 | [], _, h => h
 | x :: r, s, h => plGo_ok r (plS s x) (plS_ok h x).1
theorem plF_ok (l : List Stp) : PlOk (plF l) := plGo_ok l _ ⟨.inl rfl, by simp⟩
def refO (s : PlS) : List Edg := if s.2.1 = [] then s.1 else s.1 ++ [(s.2.1, 1, decide (s.2.2 = 1))]
theorem refO_end (l : List Stp) : refO (plF l) = plnL l := by
 have := (plF_ok l).way
 unfold refO plnL flS
 split
 ·rfl
 ·simp only
  have e : decide ((plF l).2.2 = 1) = decide (0 < (plF l).2.2) := by
   rw [Bool.eq_iff_iff]
   simp
   omega
  rw [e]
def sameS (a b : Stp) : Prop := a.1 = b.1 ∧ (a.1 = 78 ∨ a.2 = b.2)
theorem step_same {a b : Stp} (h : sameS a b) (right : Bool) (k : Knot) : stepK right k a = stepK right k b := by
 obtain ⟨c, o⟩ := a
 obtain ⟨c', o'⟩ := b
 obtain ⟨h1, h2⟩ := h
 simp only at h1 h2
 subst h1
 unfold stepK aft
 simp only
 rcases h2 with rfl | rfl
 ·simp
 ·rfl
theorem flS_ref {s : PlS} (h : PlOk s) : (flS s).1 = refO s := by
 have := h.way
 unfold refO flS
 split
 ·rfl
 ·simp only
  have e : decide (0 < s.2.2) = decide (s.2.2 = 1) := by
   rw [Bool.eq_iff_iff]
   simp
   omega
  rw [e]
theorem plR_cut {s : PlS} (h : PlOk s) {x : Stp} (hc : cutS s x = true) : plS s x = (refO s, [x.1], ownW x) := by
 unfold plS putS
 rw [if_pos hc, flS_ref h]
 have e1 : (flS s).2.1 = [] := rfl
 have e2 : (flS s).2.2 = 0 := rfl
 rw [e1, e2]
 simp only [List.nil_append]
 by_cases h0 : ownW x = 0
 ·rw [if_neg (by simp [h0]), h0]
 ·rw [if_pos h0]
theorem plR_on {s : PlS} (h : PlOk s) {x : Stp} (hc : cutS s x = false) : plS s x = (s.1, s.2.1 ++ [x.1], if s.2.2 = 0 then ownW x else s.2.2) := by
 have hw := h.way
 have ho := ownW_range x
 unfold cutS at hc
 rw [Bool.or_eq_false_iff] at hc
 have hm := of_decide_eq_false hc.2
 unfold plS putS
 rw [if_neg (by unfold cutS; rw [hc.1, hc.2]; simp)]
 have : (if ownW x ≠ 0 then ownW x else s.2.2) = if s.2.2 = 0 then ownW x else s.2.2 := by
  rcases hw with h1 | h1 | h1 <;> rcases ho with h2 | h2 | h2 <;> rw [h1, h2] at hm ⊢ <;> simp at hm ⊢
 rw [this]
theorem refO_put (E : List Edg) {w : List UInt8} (hw : w ≠ []) (y : Int) : refO (E, w, y) = E ++ [(w, 1, decide (y = 1))] := by
 unfold refO
 rw [if_neg hw]
def SameL (a b : List Stp) : Prop := a.length = b.length ∧ ∀ i (h1 : i < a.length) (h2 : i < b.length), sameS a[i] b[i]
theorem SameL.nil_ : SameL [] [] := ⟨rfl, fun i h => by simp at h⟩
theorem SameL.snoc {a b : List Stp} (h : SameL a b) {x y : Stp} (hx : sameS x y) : SameL (a ++ [x]) (b ++ [y]) := by
 refine ⟨by rw [List.length_append, List.length_append, h.1]; rfl, fun i h1 h2 => ?_⟩
 have hl := h.1
 by_cases hi : i < a.length
 ·rw [List.getElem_append_left hi, List.getElem_append_left (by omega)]
  exact h.2 i hi (by omega)
 ·have e : i = a.length := by simp at h1; omega
  subst e
  rw [List.getElem_append_right (Nat.le_refl _), List.getElem_append_right (by omega)]
  simp only [List.getElem_singleton]
  exact hx
theorem SameL.pos {right : Bool} : ∀ {a b : List Stp} {k : Knot}, SameL a b → posK right k a = posK right k b
 | [], [], _, _ => rfl
 | [], _ :: _, _, h => by simp [SameL] at h
 | _ :: _, [], _, h => by simp [SameL] at h
 | x :: a, y :: b, k, h => by
  have h0 := h.2 0 (by simp) (by simp)
  simp only [List.getElem_cons_zero] at h0
  show posK right (stepK right k x) a = posK right (stepK right k y) b
  rw [step_same h0]
  refine SameL.pos ⟨by simpa using h.1, fun i h1 h2 => ?_⟩
  have := h.2 (i + 1) (by simpa using h1) (by simpa using h2)
  simpa using this
theorem SameL.out {right : Bool} : ∀ {a b : List Stp} {k : Knot}, SameL a b → outK right k a = outK right k b
 | [], [], _, _ => rfl
 | [], _ :: _, _, h => by simp [SameL] at h
 | _ :: _, [], _, h => by simp [SameL] at h
 | x :: a, y :: b, k, h => by
  have h0 := h.2 0 (by simp) (by simp)
  simp only [List.getElem_cons_zero] at h0
  rw [outK, outK, step_same h0]
  congr 1
  refine SameL.out ⟨by simpa using h.1, fun i h1 h2 => ?_⟩
  have := h.2 (i + 1) (by simpa using h1) (by simpa using h2)
  simpa using this
def stS (s : PlS) : List Stp := stpL s.1 ++ wordS (s.2.1, 1, decide (s.2.2 = 1))
theorem edgS_one (w : List UInt8) (o : Bool) : edgS (w, 1, o) = wordS (w, 1, o) := rfl
theorem stpL_refO (s : PlS) : stpL (refO s) = stS s := by
 unfold refO stS
 split
 ·rename_i h
  rw [h]
  simp [wordS]
 ·rw [stpL_app, stpL_cons, edgS_one, show stpL [] = [] from rfl, List.append_nil]
theorem wordS_snoc (w : List UInt8) (c : UInt8) (o : Bool) (n : Int) : wordS (w ++ [c], n, o) = wordS (w, n, o) ++ [(c, o)] := by unfold wordS; simp
def PlN (s : PlS) : Prop := s.2.2 = 0 → ∀ c ∈ s.2.1, c = 78
theorem own_zero {x : Stp} (h : ownW x = 0) : x.1 = 78 := by
 unfold ownW at h
 split at h
 ·assumption
 ·split at h <;> omega
theorem own_way {x : Stp} (h : ownW x ≠ 0) : decide (ownW x = 1) = x.2 := by
 unfold ownW at h ⊢
 split at h
 ·exact absurd rfl h
 ·rename_i h1
  rw [if_neg h1]
  cases x.2 <;> rfl
theorem word_same {w : List UInt8} (h : ∀ c ∈ w, c = 78) (n m : Int) (o q : Bool) : SameL (wordS (w, n, o)) (wordS (w, m, q)) := by
 refine ⟨by rw [wordS_len, wordS_len], fun i h1 h2 => ?_⟩
 unfold wordS at h1 h2 ⊢
 simp only [List.getElem_map]
 refine ⟨rfl, .inl ?_⟩
 exact h _ (List.getElem_mem _)
theorem SameL.trans {a b c : List Stp} (h : SameL a b) (h2 : SameL b c) : SameL a c := by
 refine ⟨h.1.trans h2.1, fun i q1 q2 => ?_⟩
 have hl := h.1
 obtain ⟨a1, a2⟩ := h.2 i q1 (by omega)
 obtain ⟨b1, b2⟩ := h2.2 i (by omega) q2
 refine ⟨a1.trans b1, ?_⟩
 rcases a2 with a2 | a2
 ·exact .inl a2
 ·rcases b2 with b2 | b2
  ·exact .inl (a1.trans b2)
  ·exact .inr (a2.trans b2)
theorem SameL.app {a b c d : List Stp} (h : SameL a b) (h2 : SameL c d) : SameL (a ++ c) (b ++ d) := by
 have hl := h.1
 have hl2 := h2.1
 refine ⟨by rw [List.length_append, List.length_append]; omega, fun i q1 q2 => ?_⟩
 by_cases hi : i < a.length
 ·rw [List.getElem_append_left hi, List.getElem_append_left (by omega)]
  exact h.2 i hi (by omega)
 ·rw [List.length_append] at q1 q2
  rw [List.getElem_append_right (by omega), List.getElem_append_right (by omega)]
  have := h2.2 (i - a.length) (by omega) (by omega)
  simpa only [hl] using this
theorem SameL.refl_ (a : List Stp) : SameL a a := ⟨rfl, fun _ _ _ => ⟨rfl, .inr rfl⟩⟩
theorem pl_step {s : PlS} (h : PlOk s) (hn : PlN s) (x : Stp) : PlN (plS s x) ∧ SameL (stS (plS s x)) (stS s ++ [x]) := by
 by_cases hc : cutS s x = true
 ·rw [plR_cut h hc]
  refine ⟨fun h0 c hm => ?_, ?_⟩
  ·simp only [List.mem_singleton] at hm
   rw [hm]
   exact own_zero h0
  ·unfold stS
   simp only
   rw [stpL_refO]
   have e : wordS (([x.1], 1, decide (ownW x = 1)) : Edg) = [(x.1, decide (ownW x = 1))] := rfl
   rw [e]
   refine (SameL.refl_ _).snoc ?_
   refine ⟨rfl, ?_⟩
   by_cases h0 : ownW x = 0
   ·exact .inl (show x.1 = 78 from own_zero h0)
   ·exact .inr (own_way h0)
 ·have hc : cutS s x = false := by simpa using hc
  rw [plR_on h hc]
  by_cases h0 : s.2.2 = 0
  ·rw [if_pos h0]
   refine ⟨fun h1 c hm => ?_, ?_⟩
   ·rcases List.mem_append.1 hm with hm | hm
    ·exact hn h0 c hm
    ·simp only [List.mem_singleton] at hm
     rw [hm]
     exact own_zero h1
   ·unfold stS
    simp only
    rw [wordS_snoc, ← List.append_assoc]
    refine (SameL.app (SameL.refl_ _) (word_same (hn h0) 1 1 _ _)).snoc ⟨rfl, ?_⟩
    by_cases h1 : ownW x = 0
    ·exact .inl (show x.1 = 78 from own_zero h1)
    ·exact .inr (own_way h1)
  ·rw [if_neg h0]
   refine ⟨fun h1 => absurd h1 h0, ?_⟩
   unfold stS
   simp only
   rw [wordS_snoc, ← List.append_assoc]
   refine (SameL.refl_ _).snoc ⟨rfl, ?_⟩
   by_cases h1 : ownW x = 0
   ·exact .inl (show x.1 = 78 from own_zero h1)
   ·refine .inr ?_
    rw [← own_way h1]
    have hw := h.way
    have ho := ownW_range x
    unfold cutS at hc
    rw [Bool.or_eq_false_iff] at hc
    have hm := of_decide_eq_false hc.2
    have : ownW x = s.2.2 := by
     rcases hw with a | a | a <;> rcases ho with b | b | b <;> rw [a, b] at hm ⊢ <;> simp at hm <;> omega
    rw [this]
theorem pl_same : ∀ (n : Nat) (l : List Stp), l.length = n → PlN (plF l) ∧ SameL (stS (plF l)) l
 | 0, l, h => by
  obtain rfl := List.eq_nil_of_length_eq_zero h
  exact ⟨fun _ c hc => (by cases hc), SameL.nil_⟩
 | n + 1, l, h => by
  obtain ⟨r, x, rfl⟩ : ∃ r x, l = r ++ [x] := by
   have hne : l ≠ [] := fun e => by rw [e] at h; simp at h
   exact ⟨l.dropLast, l.getLast hne, (List.dropLast_concat_getLast hne).symm⟩
  obtain ⟨h1, h2⟩ := pl_same n r (by simpa using h)
  rw [plF_snoc]
  obtain ⟨h3, h4⟩ := pl_step (plF_ok r) h1 x
  exact ⟨h3, h4.trans (h2.snoc ⟨rfl, .inr rfl⟩)⟩
theorem pln_same (l : List Stp) : SameL (stpL (plnL l)) l := by
 rw [← refO_end, stpL_refO]
 exact (pl_same _ l rfl).2
theorem firstI4_zero {a b c d : Int} (h : firstI [a, b, c, d] = 0) : a = 0 ∧ b = 0 ∧ c = 0 ∧ d = 0 := by
 simp only [firstI] at h
 split at h
 ·rename_i h1
  split at h
  ·rename_i h2
   split at h
   ·rename_i h3
    split at h
    ·rename_i h4; exact ⟨h1, h2, h3, h4⟩
    ·rename_i h4; exact absurd h h4
   ·rename_i h3; exact absurd h h3
  ·rename_i h2; exact absurd h h2
 ·rename_i h1; exact absurd h h1
theorem panE_parts {p : Pan} (h : panE p = 0) : panE0 p = 0 ∧ panE1 p = 0 := by
 unfold panE at h
 split at h
 ·rename_i h0; exact absurd h h0
 ·rename_i h0
  split at h
  ·rename_i h1; exact absurd h h1
  ·rename_i h1
   exact ⟨by simpa using h0, by simpa using h1⟩
theorem barsX_put {s : Strp} {x y c : Int} (hp : (x + y) % 2 = 0) (hc : c = -1 ∨ c = 1) (h1 : s.2.2.1 ≤ x + c) (h2 : x + c ≤ s.2.2.2) : (x, y, c) ∈ barsX s y x := by
 rw [barsX_even hp]
 unfold barAts barAt
 rcases hc with rfl | rfl
 ·rw [if_pos (show s.2.2.1 ≤ x + -1 ∧ x + -1 ≤ s.2.2.2 from ⟨h1, h2⟩)]
  simp
 ·rw [if_pos (show s.2.2.1 ≤ x + 1 ∧ x + 1 ≤ s.2.2.2 from ⟨h1, h2⟩)]
  simp
theorem barsN_put {s : Strp} {y : Int} {b : Bar} {m : Nat} (hb : b ∈ barsX s y (s.1 + (m : Int))) : ∀ n, m < n → b ∈ barsN s y n
 | 0, h => by omega
 | n + 1, h => by
  rw [barsN, List.mem_append]
  by_cases e : m = n
  ·subst e; exact .inr hb
  ·exact .inl (barsN_put hb n (by omega))
theorem barsS_put {s : Strp} {x y c : Int} (h1 : s.1 ≤ x) (h2 : x ≤ s.2.1) (hp : (x + y) % 2 = 0) (hc : c = -1 ∨ c = 1) (h3 : s.2.2.1 ≤ x + c) (h4 : x + c ≤ s.2.2.2) : (x, y, c) ∈ barsS s y := by
 unfold barsS
 refine barsN_put (m := (x - s.1).toNat) ?_ _ (by omega)
 rw [show s.1 + (((x - s.1).toNat : Nat) : Int) = x by omega]
 exact barsX_put hp hc h3 h4
def mirP (p : Pan) : Pan := (p.1, p.2.1, p.2.2.2, p.2.2.1)
def mrK (c : Int) (k : Knot) : Knot := (2 * c - k.1, k.2)
theorem stepK_mr (c : Int) (right : Bool) (k : Knot) (s : Stp) : stepK (!right) (mrK c k) s = mrK c (stepK right k s) := by
 obtain ⟨b, o⟩ := s
 unfold stepK aft mrK sideI
 simp only
 split
 ·rfl
 ·split
  ·cases right <;> cases o <;> simp <;> omega
  ·cases right <;> cases o <;> simp <;> omega
theorem outK_mr (c : Int) (right : Bool) : ∀ (l : List Stp) (k : Knot), outK (!right) (mrK c k) l = (outK right k l).map (mrK c)
 | [], _ => rfl
 | s :: r, k => by rw [outK, outK, List.map_cons, stepK_mr, outK_mr c right r]
theorem sidS_mr (c : Int) (right : Bool) : ∀ (l : List Stp) (k : Knot), sidS (!right) (mrK c k) l = (sidS right k l).map fun x => (2 * c - x.1, 2 * c - x.2)
 | [], _ => rfl
 | s :: r, k => by
  rw [sidS, sidS, List.map_append, stepK_mr, sidS_mr c right r]
  congr 1
  split
  ·rfl
  ·split
   ·rfl
   ·rfl
theorem mir_from (p : Pan) (right : Bool) : fromP (mirP p) (!right) = mrK p.2.1 (fromP p right) := by
 cases right
 ·show ((2 * p.2.1, 0) : Knot) = (2 * p.2.1 - 0, 0)
  rw [Int.sub_zero]
 ·show ((0, 0) : Knot) = (2 * p.2.1 - 2 * p.2.1, 0)
  rw [Int.sub_self]
theorem mir_side (p : Pan) (right : Bool) : sideP (mirP p) (!right) = sideP p right := by cases right <;> rfl
theorem mir_out (p : Pan) (right : Bool) : outP (mirP p) (!right) = (outP p right).map (mrK p.2.1) := by
 unfold outP
 rw [mir_from, mir_side]
 exact outK_mr _ _ _ _
theorem mir_sid (p : Pan) (right : Bool) : sidP (mirP p) (!right) = (sidP p right).map fun x => (2 * p.2.1 - x.1, 2 * p.2.1 - x.2) := by
 unfold sidP
 rw [mir_from, mir_side]
 exact sidS_mr _ _ _ _
theorem rchGo_of (row : Int) : ∀ (l : List Knot) (y : Int) (a : Int × Int), ((rchGo row y l a).1 = a.1 ∨ hits row y l (rchGo row y l a).1) ∧ ((rchGo row y l a).2 = a.2 ∨ hits row y l (rchGo row y l a).2)
 | [], _, _ => ⟨.inl rfl, .inl rfl⟩
 | k :: r, y, a => by
  have ih := rchGo_of row r k.2 (if hitR row y k then minmax a k.1 else a)
  rw [rchGo]
  by_cases h : hitR row y k = true
  ·rw [if_pos h] at ih ⊢
   obtain ⟨i1, i2⟩ := ih
   unfold hits
   have e1 : (minmax a k.1).1 = min a.1 k.1 := rfl
   have e2 : (minmax a k.1).2 = max a.2 k.1 := rfl
   rw [e1] at i1
   rw [e2] at i2
   refine ⟨?_, ?_⟩
   ·rcases i1 with i1 | i1
    ·by_cases hm : a.1 ≤ k.1
     ·exact .inl (by omega)
     ·exact .inr (.inl ⟨h, by omega⟩)
    ·exact .inr (.inr i1)
   ·rcases i2 with i2 | i2
    ·by_cases hm : k.1 ≤ a.2
     ·exact .inl (by omega)
     ·exact .inr (.inl ⟨h, by omega⟩)
    ·exact .inr (.inr i2)
  ·rw [if_neg h] at ih ⊢
   obtain ⟨i1, i2⟩ := ih
   unfold hits
   exact ⟨i1.imp id .inr, i2.imp id .inr⟩
theorem hits_mr (c row : Int) : ∀ {l : List Knot} {y X : Int}, hits row y (l.map (mrK c)) X → hits row y l (2 * c - X)
 | [], _, _, h => h.elim
 | k :: r, y, X, h => by
  rw [List.map_cons] at h
  unfold hits at h ⊢
  rcases h with ⟨h1, h2⟩ | h
  ·refine .inl ⟨h1, ?_⟩
   unfold mrK at h2
   simp only at h2
   omega
  ·exact .inr (hits_mr c row h)
theorem mir_free {p : Pan} (ok : PanOk p) (y : Nat) (hy : (y : Int) ≤ heightP p) : (rchI (outP (mirP p) false) (y : Nat)).2 + 2 ≤ (rchI (outP (mirP p) true) (y : Nat)).1 := by
 have hw := ok.wid
 have hf := free_at ok y hy
 have h1 : outP (mirP p) false = (outP p true).map (mrK p.2.1) := mir_out p true
 have h2 : outP (mirP p) true = (outP p false).map (mrK p.2.1) := mir_out p false
 rw [h1, h2]
 have n1 := out_near p true ok.wid (ok.side true).1
 have n2 := out_near p false ok.wid (ok.side false).1
 obtain ⟨r1, e1⟩ := outK_cons true (fromP p true) (stpL (sideP p true))
 obtain ⟨r2, e2⟩ := outK_cons false (fromP p false) (stpL (sideP p false))
 have e1 : outP p true = fromP p true :: r1 := e1
 have e2 : outP p false = fromP p false :: r2 := e2
 rw [e1] at n1 hf ⊢
 rw [e2] at n2 hf ⊢
 rw [List.map_cons, List.map_cons]
 have a2 : (rchI (mrK p.2.1 (fromP p true) :: r1.map (mrK p.2.1)) (y : Nat)).2 = -999999999 ∨ hits (y : Nat) (fromP p true).2 (fromP p true :: r1) (2 * p.2.1 - (rchI (mrK p.2.1 (fromP p true) :: r1.map (mrK p.2.1)) (y : Nat)).2) :=
  (rchGo_of (y : Nat) (mrK p.2.1 (fromP p true) :: r1.map (mrK p.2.1)) (fromP p true).2 noneR).2.imp id fun h => hits_mr p.2.1 (y : Nat) (l := fromP p true :: r1) h
 have b1 : (rchI (mrK p.2.1 (fromP p false) :: r2.map (mrK p.2.1)) (y : Nat)).1 = 999999999 ∨ hits (y : Nat) (fromP p false).2 (fromP p false :: r2) (2 * p.2.1 - (rchI (mrK p.2.1 (fromP p false) :: r2.map (mrK p.2.1)) (y : Nat)).1) :=
  (rchGo_of (y : Nat) (mrK p.2.1 (fromP p false) :: r2.map (mrK p.2.1)) (fromP p false).2 noneR).1.imp id fun h => hits_mr p.2.1 (y : Nat) (l := fromP p false :: r2) h
 obtain ⟨A, hA⟩ : ∃ A, (rchI (mrK p.2.1 (fromP p true) :: r1.map (mrK p.2.1)) (y : Nat)).2 = A := ⟨_, rfl⟩
 obtain ⟨B, hB⟩ : ∃ B, (rchI (mrK p.2.1 (fromP p false) :: r2.map (mrK p.2.1)) (y : Nat)).1 = B := ⟨_, rfl⟩
 rw [hA] at a2 ⊢
 rw [hB] at b1 ⊢
 have qa : A = -999999999 ∨ (-5000 ≤ A ∧ A ≤ 5000) ∧ 2 * p.2.1 - A ≥ (rchI (fromP p true :: r1) (y : Nat)).1 := a2.imp id fun h => by
  obtain ⟨k, hk, e⟩ := hits_mem h
  have := n1 k hk
  have := (rchI_hit h).1
  omega
 have qb : B = 999999999 ∨ (-5000 ≤ B ∧ B ≤ 5000) ∧ 2 * p.2.1 - B ≤ (rchI (fromP p false :: r2) (y : Nat)).2 := b1.imp id fun h => by
  obtain ⟨k, hk, e⟩ := hits_mem h
  have := n2 k hk
  have := (rchI_hit h).2
  omega
 omega
theorem mir_err {p : Pan} (h : panE p = 0) : panE (mirP p) = 0 := by
 have ok := panE_zero h
 obtain ⟨h0, h1⟩ := panE_parts h
 obtain ⟨a1, a2, a3, a4⟩ := firstI4_zero (show firstI [whenI (!nameR p.1) 8, withinI p.2.1 1 128, sideE p.2.2.1, sideE p.2.2.2] = 0 from h0)
 have hh : heightP (mirP p) = heightP p := ok.same
 have hh2 := ok.high
 have h0' : panE0 (mirP p) = 0 := by
  show firstI [whenI (!nameR p.1) 8, withinI p.2.1 1 128, sideE p.2.2.2, sideE p.2.2.1] = 0
  rw [a1, a2, a3, a4]
  rfl
 have h1' : panE1 (mirP p) = 0 := by
  unfold panE1
  rw [hh]
  have e : riseL (stpL (mirP p).2.2.2) = heightP p := rfl
  rw [e]
  unfold whenI
  rw [decide_eq_false (by omega), decide_eq_false (by omega), decide_eq_false (by omega)]
  rfl
 have hc : crossB (outP (mirP p) false) (outP (mirP p) true) ((heightP (mirP p)).toNat + 1) = false := by
  rw [hh]
  unfold crossB
  rw [List.any_eq_false]
  intro y hy
  have := mir_free ok y (by have := List.mem_range.1 hy; omega)
  simp only [decide_eq_true_eq]
  omega
 unfold panE
 rw [if_neg (by simp [h0']), if_neg (by simp [h1']), hc]
 rfl
theorem mir_bar {p : Pan} (h : panE p = 0) {b : Bar} (hb : b ∈ netL p) : (2 * p.2.1 - b.1, b.2.1, -b.2.2) ∈ netL (mirP p) := by
 have ok := panE_zero h
 have ok2 := panE_zero (mir_err h)
 obtain ⟨k, hk, hm⟩ := netN_mem _ hb
 have e : (strips p).getD k (0, 0, 0, 0) = (strips p)[k] := by
  rw [List.getD_eq_getElem?_getD, List.getElem?_eq_getElem hk, Option.getD_some]
 rw [e] at hm
 obtain ⟨h1, h2, h3, h4, h5, h6, h7⟩ := barsS_mem hm
 obtain ⟨e1, e2⟩ := sid_lens ok
 obtain ⟨f1, f2⟩ := sid_lens ok2
 have hl : (strips (mirP p)).length = (strips p).length := by
  rw [strips_len, strips_len]
  show (riseL (stpL p.2.2.2)).toNat = _
  rw [ok.same]
 have hk2 : k < (strips (mirP p)).length := by omega
 have s1 : sidP (mirP p) false = (sidP p true).map fun x => (2 * p.2.1 - x.1, 2 * p.2.1 - x.2) := mir_sid p true
 have s2 : sidP (mirP p) true = (sidP p false).map fun x => (2 * p.2.1 - x.1, 2 * p.2.1 - x.2) := mir_sid p false
 have q1 : k < (sidP p false).length := by omega
 have q2 : k < (sidP p true).length := by omega
 have q3 : k < (sidP (mirP p) false).length := by omega
 have q4 : k < (sidP (mirP p) true).length := by omega
 have g1 : (sidP (mirP p) false)[k] = (2 * p.2.1 - (sidP p true)[k].1, 2 * p.2.1 - (sidP p true)[k].2) := by simp only [s1, List.getElem_map]
 have g2 : (sidP (mirP p) true)[k] = (2 * p.2.1 - (sidP p false)[k].1, 2 * p.2.1 - (sidP p false)[k].2) := by simp only [s2, List.getElem_map]
 refine netN_in (k := k) ?_ _ hk2
 rw [List.getD_eq_getElem?_getD, List.getElem?_eq_getElem hk2, Option.getD_some, strips_get k hk2 q3 q4, g1, g2]
 rw [strips_get k hk q1 q2] at h2 h3 h6 h7
 obtain ⟨x, y, c⟩ := b
 simp only at h1 h2 h3 h4 h5 h6 h7
 subst h1
 show (2 * p.2.1 - x, (k : Int), -c) ∈ _
 refine barsS_put ?_ ?_ ?_ ?_ ?_ ?_
 all_goals first
  | omega
  | (simp only; omega)
theorem mir_mir (p : Pan) : mirP (mirP p) = p := rfl
def revF (l : List Stp) : List Stp := l.reverse.map fun s => (s.1, !s.2)
theorem revF_app (a b : List Stp) : revF (a ++ b) = revF b ++ revF a := by unfold revF; simp
theorem revF_cons (s : Stp) (t : List Stp) : revF (s :: t) = revF t ++ [(s.1, !s.2)] := by unfold revF; simp
theorem revF_len (l : List Stp) : (revF l).length = l.length := by unfold revF; simp
theorem word_opp (e : Edg) : wordS (oppE e) = revF (wordS e) := by
 unfold wordS revF oppE
 simp [List.map_reverse, Function.comp_def]
theorem tim_comm (e : Edg) : ∀ n, wordS e ++ timS e n = timS e n ++ wordS e
 | 0 => by simp [timS]
 | n + 1 => by
  rw [timS, ← List.append_assoc, tim_comm e n]
theorem tim_opp (e : Edg) : ∀ n, timS (oppE e) n = revF (timS e n)
 | 0 => rfl
 | n + 1 => by
  rw [timS, timS, revF_app, tim_opp e n, word_opp, ← tim_opp e n, ← word_opp, tim_comm]
theorem edg_opp (e : Edg) : edgS (oppE e) = revF (edgS e) := tim_opp e _
theorem opp_cons (e : Edg) (l : List Edg) : oppL (e :: l) = oppL l ++ [oppE e] := by unfold oppL; simp
theorem stp_opp : ∀ l : List Edg, stpL (oppL l) = revF (stpL l)
 | [] => rfl
 | e :: l => by
  rw [opp_cons, stpL_app, stp_opp l, stpL_cons e l, revF_app, ← edg_opp]
  congr 1
  simp [stpL]
def rotK (c k : Knot) : Knot := (c.1 - k.1, c.2 - k.2)
theorem step_rot (c k : Knot) (r : Bool) (s : Stp) : stepK (!r) (rotK c (stepK r k s)) (s.1, !s.2) = rotK c k := by
 obtain ⟨b, o⟩ := s
 have e : ((!o) == (!r)) = (o == r) := by cases o <;> cases r <;> rfl
 unfold stepK
 simp only
 rw [e]
 unfold aft rotK
 split
 ·simp only
  refine Prod.ext ?_ ?_ <;> simp only <;> omega
 ·split
  ·refine Prod.ext ?_ ?_ <;> simp only <;> omega
  ·refine Prod.ext ?_ ?_ <;> simp only <;> omega
theorem pos_cons (r : Bool) (k : Knot) (s : Stp) (t : List Stp) : posK r k (s :: t) = posK r (stepK r k s) t := rfl
theorem pos_rot (c : Knot) (r : Bool) : ∀ (l : List Stp) (k : Knot), posK (!r) (rotK c (posK r k l)) (revF l) = rotK c k
 | [], _ => rfl
 | s :: t, k => by rw [revF_cons, posK_snoc, pos_cons, pos_rot c r t (stepK r k s), step_rot]
theorem out_rot (c : Knot) (r : Bool) : ∀ (l : List Stp) (k : Knot), outK (!r) (rotK c (posK r k l)) (revF l) = (outK r k l).reverse.map (rotK c)
 | [], _ => rfl
 | s :: t, k => by
  have e := pos_rot c r (s :: t) k
  rw [revF_cons] at e ⊢
  rw [outK_snoc, e, pos_cons, out_rot c r t (stepK r k s)]
  rw [outK, List.reverse_cons, List.map_append]
  rfl
theorem sidS_app (r : Bool) : ∀ (a b : List Stp) (k : Knot), sidS r k (a ++ b) = sidS r k a ++ sidS r (posK r k a) b
 | [], _, _ => rfl
 | s :: t, b, k => by rw [List.cons_append, sidS, sidS, sidS_app r t b, List.append_assoc, pos_cons]
theorem sid_rot (c : Knot) (r : Bool) : ∀ (l : List Stp) (k : Knot), sidS (!r) (rotK c (posK r k l)) (revF l) = (sidS r k l).reverse.map fun x => (c.1 - x.2, c.1 - x.1)
 | [], _ => rfl
 | s :: t, k => by
  have e : sidS r k (s :: t) = (if s.1 = 78 then [(k.1, k.1), (k.1, k.1)] else if s.1 = 66 then [(k.1, (stepK r k s).1)] else []) ++ sidS r (stepK r k s) t := rfl
  rw [revF_cons, sidS_app, pos_cons, pos_rot c r t, sid_rot c r t (stepK r k s), e, List.reverse_append, List.map_append]
  congr 1
  rw [sidS, step_rot]
  have e2 : sidS (!r) (rotK c k) [] = [] := rfl
  rw [e2, List.append_nil]
  by_cases h1 : s.1 = 78
  ·have hx : (stepK r k s).1 = k.1 := by unfold stepK aft; rw [if_pos h1]
   rw [if_pos h1, if_pos h1]
   unfold rotK
   simp [hx]
  ·rw [if_neg h1, if_neg h1]
   by_cases h2 : s.1 = 66
   ·rw [if_pos h2, if_pos h2]
    unfold rotK
    simp
   ·rw [if_neg h2, if_neg h2]
    rfl
theorem rise_rev (l : List Stp) : riseL (revF l) = riseL l := by
 induction l with
 | nil => rfl
 | cons s t ih =>
  have e : riseL [(s.1, !s.2)] = riseC s.1 := by rw [riseL_cons]; show riseC s.1 + 0 = _; omega
  rw [revF_cons, riseL_app, ih, e, riseL_cons s t]
  omega
theorem step_par (r : Bool) (k : Knot) (s : Stp) : ((stepK r k s).1 + (stepK r k s).2 - (k.1 + k.2)) % 2 = 0 := by
 unfold stepK aft sideI
 split
 ·simp only; omega
 ·split
  ·simp only; split <;> omega
  ·simp only; split <;> omega
theorem pos_par (r : Bool) : ∀ (l : List Stp) (k : Knot), ((posK r k l).1 + (posK r k l).2 - (k.1 + k.2)) % 2 = 0
 | [], k => by show (k.1 + k.2 - (k.1 + k.2)) % 2 = 0; omega
 | s :: t, k => by
  rw [pos_cons]
  have := pos_par r t (stepK r k s)
  have := step_par r k s
  omega
def trnP (p : Pan) : Pan := (p.1, (topX p true - topX p false).tdiv 2, oppL p.2.2.2, oppL p.2.2.1)
def topC (p : Pan) : Knot := (topX p true, heightP p)
theorem top_pos {p : Pan} (ok : PanOk p) (r : Bool) : posK r (fromP p r) (stpL (sideP p r)) = (topX p r, heightP p) := Prod.ext rfl (out_top' p r ok)
theorem top_even {p : Pan} (ok : PanOk p) (r : Bool) : (topX p r + heightP p) % 2 = 0 := by
 have h := pos_par r (stpL (sideP p r)) (fromP p r)
 rw [top_pos ok r] at h
 cases r
 ·have h : (topX p false + heightP p - (0 + 0)) % 2 = 0 := h
  omega
 ·have h : (topX p true + heightP p - (2 * p.2.1 + 0)) % 2 = 0 := h
  omega
theorem trn_wid {p : Pan} (ok : PanOk p) : 2 * (trnP p).2.1 = topX p true - topX p false := by
 have h1 := top_even ok false
 have h2 := top_even ok true
 show 2 * ((topX p true - topX p false).tdiv 2) = _
 obtain ⟨m, hm⟩ : ∃ m, topX p true - topX p false = 2 * m := ⟨(topX p true - topX p false) / 2, by omega⟩
 rw [hm, Int.mul_tdiv_cancel_left m (by decide)]
theorem trn_from {p : Pan} (ok : PanOk p) (r : Bool) : fromP (trnP p) (!r) = rotK (topC p) (posK r (fromP p r) (stpL (sideP p r))) := by
 rw [top_pos ok r]
 have hw := trn_wid ok
 cases r
 ·refine Prod.ext ?_ ?_
  ·show 2 * (trnP p).2.1 = topX p true - topX p false
   exact hw
  ·show (0 : Int) = heightP p - heightP p
   omega
 ·refine Prod.ext ?_ ?_
  ·show (0 : Int) = topX p true - topX p true
   omega
  ·show (0 : Int) = heightP p - heightP p
   omega
theorem trn_side (p : Pan) (r : Bool) : sideP (trnP p) (!r) = oppL (sideP p r) := by cases r <;> rfl
theorem trn_out {p : Pan} (ok : PanOk p) (r : Bool) : outP (trnP p) (!r) = (outP p r).reverse.map (rotK (topC p)) := by
 unfold outP
 rw [trn_from ok, trn_side, stp_opp]
 exact out_rot _ _ _ _
theorem trn_sid {p : Pan} (ok : PanOk p) (r : Bool) : sidP (trnP p) (!r) = (sidP p r).reverse.map fun x => (topX p true - x.2, topX p true - x.1) := by
 unfold sidP
 rw [trn_from ok, trn_side, stp_opp]
 exact sid_rot _ _ _ _
theorem trn_high {p : Pan} (ok : PanOk p) : heightP (trnP p) = heightP p := by
 show riseL (stpL (oppL p.2.2.2)) = _
 rw [stp_opp, rise_rev, ok.same]
theorem hits_app (row : Int) : ∀ (a b : List Knot) (y X : Int), hits row y (a ++ b) X → hits row y a X ∨ hits row (lastY y a) b X
 | [], _, _, _, h => .inr h
 | k :: r, b, y, X, h => by
  rw [List.cons_append] at h
  unfold hits at h
  rcases h with h | h
  ·exact .inl (.inl h)
  ·rcases hits_app row r b k.2 X h with h | h
   ·exact .inl (.inr h)
   ·exact .inr h
theorem hits_rot (c : Knot) (row X : Int) (r : Bool) : ∀ (l : List Stp) (k : Knot), hits row (c.2 - (posK r k l).2) ((outK r k l).reverse.map (rotK c)) X → hits (c.2 - row) k.2 (outK r k l) (c.1 - X)
 | [], k, h => by
  rcases h with ⟨h1, h2⟩ | h
  ·refine .inl ⟨hitR_own ?_, ?_⟩
   ·unfold hitR at h1
    rw [decide_eq_true_eq] at h1
    have h1 : c.2 - k.2 = row ∨ c.2 - k.2 < row ∧ row < c.2 - k.2 := h1
    omega
   ·have h2 : c.1 - k.1 = X := h2
    omega
  ·exact h.elim
 | s :: t, k, h => by
  obtain ⟨r', hr'⟩ := outK_cons r (stepK r k s) t
  rw [pos_cons] at h
  have e : outK r k (s :: t) = k :: outK r (stepK r k s) t := rfl
  rw [e, List.reverse_cons, List.map_append] at h
  rw [e]
  rcases hits_app _ _ _ _ _ h with h | h
  ·have ih := hits_rot c row X r t (stepK r k s) h
   rw [hr'] at ih ⊢
   exact .inr (hits_back ih)
  ·rw [hr', List.reverse_cons, List.map_append] at h
   have hl := lastY_snoc (r'.reverse.map (rotK c)) (c.2 - (posK r (stepK r k s) t).2) (rotK c (stepK r k s))
   have hl : lastY (c.2 - (posK r (stepK r k s) t).2) (List.map (rotK c) r'.reverse ++ List.map (rotK c) [stepK r k s]) = (rotK c (stepK r k s)).2 := hl
   rw [hl] at h
   rcases h with ⟨h1, h2⟩ | h
   ·unfold hitR at h1
    rw [decide_eq_true_eq] at h1
    have h1 : c.2 - k.2 = row ∨ c.2 - (stepK r k s).2 < row ∧ row < c.2 - k.2 := h1
    have h2 : c.1 - k.1 = X := h2
    rcases h1 with h1 | ⟨h1, h3⟩
    ·exact .inl ⟨hitR_own (by omega), by omega⟩
    ·have hx := step_x (right := r) (k := k) (s := s) (by omega)
     rw [hr']
     exact .inr (.inl ⟨hitR_past (by omega) (by omega), by omega⟩)
   ·exact h.elim
theorem trn_hits {p : Pan} (ok : PanOk p) (r : Bool) {row X : Int} (h : hits row 0 (outP (trnP p) (!r)) X) : hits (heightP p - row) 0 (outP p r) (topX p true - X) := by
 rw [trn_out ok] at h
 have hy := fromP_y p r
 have := hits_rot (topC p) row X r (stpL (sideP p r)) (fromP p r) (by
  rw [top_pos ok r]
  show hits row (heightP p - heightP p) _ X
  rw [Int.sub_self]
  exact h)
 rw [hy] at this
 exact this
theorem trn_free {p : Pan} (ok : PanOk p) (y : Nat) (hy : (y : Int) ≤ heightP p) : (rchI (outP (trnP p) false) (y : Nat)).2 + 2 ≤ (rchI (outP (trnP p) true) (y : Nat)).1 := by
 obtain ⟨z, hz⟩ : ∃ z : Nat, heightP p - (y : Int) = z := ⟨(heightP p - (y : Int)).toNat, by omega⟩
 have hf := free_at ok z (by omega)
 have n1 := out_near p true ok.wid (ok.side true).1
 have n2 := out_near p false ok.wid (ok.side false).1
 have t1 := topX_near ok true
 have f1 : (fromP (trnP p) false).2 = 0 := rfl
 have f2 : (fromP (trnP p) true).2 = 0 := rfl
 have q1 : (fromP p true).2 = 0 := rfl
 have q2 : (fromP p false).2 = 0 := rfl
 have k1 := fun X => trn_hits (row := (y : Int)) (X := X) ok true
 have k2 := fun X => trn_hits (row := (y : Int)) (X := X) ok false
 rw [hz] at k1 k2
 have k1 : ∀ X, hits (y : Int) 0 (outP (trnP p) false) X → hits (z : Int) 0 (outP p true) (topX p true - X) := k1
 have k2 : ∀ X, hits (y : Int) 0 (outP (trnP p) true) X → hits (z : Int) 0 (outP p false) (topX p true - X) := k2
 obtain ⟨s1, e1⟩ := outK_cons false (fromP (trnP p) false) (stpL (sideP (trnP p) false))
 obtain ⟨s2, e2⟩ := outK_cons true (fromP (trnP p) true) (stpL (sideP (trnP p) true))
 obtain ⟨s3, e3⟩ := outK_cons true (fromP p true) (stpL (sideP p true))
 obtain ⟨s4, e4⟩ := outK_cons false (fromP p false) (stpL (sideP p false))
 have e1 : outP (trnP p) false = fromP (trnP p) false :: s1 := e1
 have e2 : outP (trnP p) true = fromP (trnP p) true :: s2 := e2
 have e3 : outP p true = fromP p true :: s3 := e3
 have e4 : outP p false = fromP p false :: s4 := e4
 have a : (rchI (outP (trnP p) false) (y : Nat)).2 = -999999999 ∨ hits (y : Int) 0 (outP (trnP p) false) (rchI (outP (trnP p) false) (y : Nat)).2 := by
  rw [e1]
  have := (rchGo_of (y : Nat) (fromP (trnP p) false :: s1) 0 noneR).2
  exact this
 have b : (rchI (outP (trnP p) true) (y : Nat)).1 = 999999999 ∨ hits (y : Int) 0 (outP (trnP p) true) (rchI (outP (trnP p) true) (y : Nat)).1 := by
  rw [e2]
  have := (rchGo_of (y : Nat) (fromP (trnP p) true :: s2) 0 noneR).1
  exact this
 obtain ⟨A, hA⟩ : ∃ A, (rchI (outP (trnP p) false) (y : Nat)).2 = A := ⟨_, rfl⟩
 obtain ⟨B, hB⟩ : ∃ B, (rchI (outP (trnP p) true) (y : Nat)).1 = B := ⟨_, rfl⟩
 rw [hA] at a ⊢
 rw [hB] at b ⊢
 have qa : A = -999999999 ∨ (-200000 ≤ A ∧ A ≤ 200000) ∧ topX p true - A ≥ (rchI (outP p true) (z : Nat)).1 := a.imp id fun h => by
  have h := k1 _ h
  obtain ⟨k, hk, e⟩ := hits_mem h
  have := n1 k hk
  rw [e3] at h ⊢
  have := (rchI_hit (k := fromP p true) (r := s3) h).1
  omega
 have qb : B = 999999999 ∨ (-200000 ≤ B ∧ B ≤ 200000) ∧ topX p true - B ≤ (rchI (outP p false) (z : Nat)).2 := b.imp id fun h => by
  have h := k2 _ h
  obtain ⟨k, hk, e⟩ := hits_mem h
  have := n2 k hk
  rw [e4] at h ⊢
  have := (rchI_hit (k := fromP p false) (r := s4) h).2
  omega
 omega
theorem sideGo_put : ∀ (l : List Edg) (n : Int), (∀ e ∈ l, edgE e = 0) → n + (stpL l).length ≤ 512 → sideGo l n = 0
 | [], n, _, h => by
  unfold sideGo whenI
  rw [decide_eq_false (by simp [stpL] at h; omega)]
  rfl
 | e :: r, n, h1, h2 => by
  unfold sideGo
  have h0 := h1 e (List.mem_cons_self ..)
  rw [if_pos h0]
  obtain ⟨q1, q2, q3, q4, q5⟩ := edgE_zero h0
  refine sideGo_put r _ (fun x hx => h1 x (List.mem_cons_of_mem _ hx)) ?_
  rw [stpL_cons, List.length_append, edgS_len] at h2
  obtain ⟨t, ht⟩ : ∃ t : Nat, e.2.1 = t := ⟨e.2.1.toNat, by omega⟩
  rw [ht] at h2 ⊢
  rw [Int.toNat_natCast, Nat.mul_comm] at h2
  push_cast at h2 ⊢
  omega
theorem sideE_put {l : List Edg} (h : SideOk l) : sideE l = 0 := by
 unfold sideE
 rw [if_neg (by have := h.few; omega)]
 exact sideGo_put l 0 h.ok (by have := h.len; omega)
theorem edgE_opp (e : Edg) : edgE (oppE e) = edgE e := by
 have h1 : ((oppE e).1 = []) = (e.1 = []) := by unfold oppE; simp
 have h2 : (oppE e).1.length = e.1.length := by unfold oppE; simp
 have h3 : wrongW (oppE e).1 = wrongW e.1 := by unfold wrongW oppE; simp [List.any_reverse]
 have h4 : (oppE e).2.1 = e.2.1 := rfl
 unfold edgE
 rw [h2, h3, h4]
 simp only [h1]
theorem side_opp {l : List Edg} (h : SideOk l) : SideOk (oppL l) := by
 refine ⟨?_, ?_, ?_⟩
 ·have := h.few
  unfold oppL
  simpa using this
 ·intro e he
  unfold oppL at he
  rw [List.mem_map] at he
  obtain ⟨x, hx, rfl⟩ := he
  rw [edgE_opp]
  exact h.ok x (List.mem_reverse.1 hx)
 ·rw [stp_opp, revF_len]
  exact h.len
theorem top_apart {p : Pan} (ok : PanOk p) : topX p false + 2 ≤ topX p true := by
 have hh := ok.high
 obtain ⟨y, hy⟩ : ∃ y : Nat, heightP p = y := ⟨(heightP p).toNat, by omega⟩
 have := trn_free ok 0 (by omega)
 have e1 : (rchI (outP (trnP p) false) ((0 : Nat) : Int)).2 ≥ 0 := by
  obtain ⟨s1, e1⟩ := outK_cons false (fromP (trnP p) false) (stpL (sideP (trnP p) false))
  have e1 : outP (trnP p) false = fromP (trnP p) false :: s1 := e1
  rw [e1]
  exact (rchI_hit (k := fromP (trnP p) false) (r := s1) (X := 0) (.inl ⟨hitR_own rfl, rfl⟩)).2
 have e2 : (rchI (outP (trnP p) true) ((0 : Nat) : Int)).1 ≤ 2 * (trnP p).2.1 := by
  obtain ⟨s1, e1⟩ := outK_cons true (fromP (trnP p) true) (stpL (sideP (trnP p) true))
  have e1 : outP (trnP p) true = fromP (trnP p) true :: s1 := e1
  rw [e1]
  exact (rchI_hit (k := fromP (trnP p) true) (r := s1) (X := 2 * (trnP p).2.1) (.inl ⟨hitR_own rfl, rfl⟩)).1
 have := trn_wid ok
 omega
theorem trn_err {p : Pan} (h : panE p = 0) (hw : (trnP p).2.1 ≤ 128) : panE (trnP p) = 0 := by
 have ok := panE_zero h
 obtain ⟨h0, h1⟩ := panE_parts h
 obtain ⟨a1, _, _, _⟩ := firstI4_zero (show firstI [whenI (!nameR p.1) 8, withinI p.2.1 1 128, sideE p.2.2.1, sideE p.2.2.2] = 0 from h0)
 have hh := trn_high ok
 have hh2 := ok.high
 have hap := top_apart ok
 have hw1 := trn_wid ok
 have h0' : panE0 (trnP p) = 0 := by
  show firstI [whenI (!nameR p.1) 8, withinI (trnP p).2.1 1 128, sideE (oppL p.2.2.2), sideE (oppL p.2.2.1)] = 0
  rw [a1, sideE_put (side_opp ok.left), sideE_put (side_opp ok.right)]
  unfold withinI whenI
  rw [decide_eq_false (by omega), decide_eq_false (by omega)]
  rfl
 have h1' : panE1 (trnP p) = 0 := by
  unfold panE1
  rw [hh]
  have e : riseL (stpL (trnP p).2.2.2) = heightP p := by
   show riseL (stpL (oppL p.2.2.1)) = _
   rw [stp_opp, rise_rev]
   rfl
  rw [e]
  unfold whenI
  rw [decide_eq_false (by omega), decide_eq_false (by omega), decide_eq_false (by omega)]
  rfl
 have hc : crossB (outP (trnP p) false) (outP (trnP p) true) ((heightP (trnP p)).toNat + 1) = false := by
  rw [hh]
  unfold crossB
  rw [List.any_eq_false]
  intro y hy
  have := trn_free ok y (by have := List.mem_range.1 hy; omega)
  simp only [decide_eq_true_eq]
  omega
 unfold panE
 rw [if_neg (by simp [h0']), if_neg (by simp [h1']), hc]
 rfl
theorem trn_bar {p : Pan} (h : panE p = 0) (hw : (trnP p).2.1 ≤ 128) {b : Bar} (hb : b ∈ netL p) : (topX p true - (b.1 + b.2.2), heightP p - (b.2.1 + 1), b.2.2) ∈ netL (trnP p) := by
 have ok := panE_zero h
 have ok2 := panE_zero (trn_err h hw)
 obtain ⟨k, hk, hm⟩ := netN_mem _ hb
 have e : (strips p).getD k (0, 0, 0, 0) = (strips p)[k] := by
  rw [List.getD_eq_getElem?_getD, List.getElem?_eq_getElem hk, Option.getD_some]
 rw [e] at hm
 obtain ⟨h1, h2, h3, h4, h5, h6, h7⟩ := barsS_mem hm
 obtain ⟨e1, e2⟩ := sid_lens ok
 obtain ⟨f1, f2⟩ := sid_lens ok2
 have hev := top_even ok true
 have hh := ok.high
 have hn := strips_len p
 have hl : (strips (trnP p)).length = (strips p).length := by
  rw [strips_len, strips_len, trn_high ok]
 obtain ⟨j, hj⟩ : ∃ j, j = (strips p).length - 1 - k := ⟨_, rfl⟩
 have hk2 : j < (strips (trnP p)).length := by omega
 have s1 : sidP (trnP p) false = (sidP p true).reverse.map fun x => (topX p true - x.2, topX p true - x.1) := trn_sid ok true
 have s2 : sidP (trnP p) true = (sidP p false).reverse.map fun x => (topX p true - x.2, topX p true - x.1) := trn_sid ok false
 have q1 : k < (sidP p false).length := by omega
 have q2 : k < (sidP p true).length := by omega
 have q3 : j < (sidP (trnP p) false).length := by omega
 have q4 : j < (sidP (trnP p) true).length := by omega
 have g1 : (sidP (trnP p) false)[j] = (topX p true - (sidP p true)[k].2, topX p true - (sidP p true)[k].1) := by
  simp only [s1, List.getElem_map, List.getElem_reverse]
  have : (sidP p true).length - 1 - j = k := by omega
  simp only [this]
 have g2 : (sidP (trnP p) true)[j] = (topX p true - (sidP p false)[k].2, topX p true - (sidP p false)[k].1) := by
  simp only [s2, List.getElem_map, List.getElem_reverse]
  have : (sidP p false).length - 1 - j = k := by omega
  simp only [this]
 refine netN_in (k := j) ?_ _ hk2
 rw [List.getD_eq_getElem?_getD, List.getElem?_eq_getElem hk2, Option.getD_some, strips_get j hk2 q3 q4, g1, g2]
 rw [strips_get k hk q1 q2] at h2 h3 h6 h7
 obtain ⟨x, y, c⟩ := b
 simp only at h1 h2 h3 h4 h5 h6 h7
 subst h1
 have ey : heightP p - ((k : Int) + 1) = (j : Int) := by omega
 show (topX p true - (x + c), heightP p - ((k : Int) + 1), c) ∈ _
 rw [ey]
 refine barsS_put ?_ ?_ ?_ ?_ ?_ ?_
 all_goals first
  | omega
  | (simp only; omega)
theorem trn_top {p : Pan} (ok : PanOk p) (r : Bool) : posK (!r) (fromP (trnP p) (!r)) (stpL (sideP (trnP p) (!r))) = rotK (topC p) (fromP p r) := by
 rw [trn_from ok, trn_side, stp_opp]
 exact pos_rot _ _ _ _
theorem trn_trn_wid {p : Pan} (ok : PanOk p) : (trnP (trnP p)).2.1 = p.2.1 := by
 have h1 : topX (trnP p) true = topX p true - 0 := congrArg Prod.fst (trn_top ok false)
 have h2 : topX (trnP p) false = topX p true - 2 * p.2.1 := congrArg Prod.fst (trn_top ok true)
 show (topX (trnP p) true - topX (trnP p) false).tdiv 2 = _
 rw [h1, h2, show topX p true - 0 - (topX p true - 2 * p.2.1) = 2 * p.2.1 by omega, Int.mul_tdiv_cancel_left _ (by decide)]
theorem oppE_oppE (e : Edg) : oppE (oppE e) = e := by
 obtain ⟨a, b, c⟩ := e
 simp [oppE]
theorem oppL_oppL (l : List Edg) : oppL (oppL l) = l := by
 unfold oppL
 simp [List.map_reverse, Function.comp_def, oppE_oppE]
theorem trn_trn {p : Pan} (ok : PanOk p) : trnP (trnP p) = p := by
 have h := trn_trn_wid ok
 obtain ⟨n, w, l, r⟩ := p
 show (n, (trnP (trnP (n, w, l, r))).2.1, oppL (oppL l), oppL (oppL r)) = (n, w, l, r)
 rw [h, oppL_oppL, oppL_oppL]
end Go.Proofs.YtkkefahobjlagaaGreatDoor

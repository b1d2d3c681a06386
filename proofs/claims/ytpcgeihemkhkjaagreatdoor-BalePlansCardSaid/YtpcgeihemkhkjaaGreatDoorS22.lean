/- The turned panel, plain. Conditions: the panel is valid. -/
import Derived.Test.YtpcgeihemkhkjaaGreatDoorS21
import Derived.Test.YtpcgeihemkhkjaaGreatDoorS19
import Derived.Test.YtpcgeihemkhkjaaGreatDoorS20
import Derived.Test.YtpcgeihemkhkjaaGreatDoorS15
import Derived.Test.YtpcgeihemkhkjaaGreatDoorS14
import Derived.Test.YtpcgeihemkhkjaaGreatDoorS02
import Derived.Test.YtpcgeihemkhkjaaGreatDoorS18
import Derived.Test.YtpcgeihemkhkjaaGreatDoorS11
import Derived.Test.YtpcgeihemkhkjaaGreatDoorS13
import Derived.Test.YtpcgeihemkhkjaaGreatDoorS06
namespace Go.Proofs.YtpcgeihemkhkjaaGreatDoor
open Go.RowKit Go.ChangeMaps
set_option maxHeartbeats 4000000
set_option maxRecDepth 100000
def revF (l : List Stp) : List Stp := l.reverse.map fun s => (s.1, !s.2)
theorem Zgx (a b : List Stp) : revF (a ++ b) = revF b ++ revF a := by unfold revF; simp
theorem Zgy (s : Stp) (t : List Stp) : revF (s :: t) = revF t ++ [(s.1, !s.2)] := by unfold revF; simp
theorem Zgz (l : List Stp) : (revF l).length = l.length := by unfold revF; simp
theorem Zh0 (e : Edg) : Z2e (oppE e) = revF (Z2e e) := by
 unfold Z2e revF oppE
 simp [List.map_reverse, Function.comp_def]
theorem Zh1 (e : Edg) : ∀ n, Z2e e ++ timS e n = timS e n ++ Z2e e
 | 0 => by simp [timS]
 | n + 1 => by
  rw [timS, ← List.append_assoc, Zh1 e n]
theorem Zh2 (e : Edg) : ∀ n, timS (oppE e) n = revF (timS e n)
 | 0 => rfl
 | n + 1 => by
  rw [timS, timS, Zgx, Zh2 e n, Zh0, ← Zh2 e n, ← Zh0, Zh1]
theorem Zh3 (e : Edg) : edgS (oppE e) = revF (edgS e) := Zh2 e _
theorem Zh4 (e : Edg) (l : List Edg) : oppL (e :: l) = oppL l ++ [oppE e] := by unfold oppL; simp
theorem Zh5 : ∀ l : List Edg, stpL (oppL l) = revF (stpL l)
 | [] => rfl
 | e :: l => by
  rw [Zh4, Z2j, Zh5 l, Z2i e l, Zgx, ← Zh3]; congr 1
  simp [stpL]
def rotK (c k : Knot) : Knot := (c.1 - k.1, c.2 - k.2)
theorem Zh6 (c k : Knot) (r : Bool) (s : Stp) : Z2m (!r) (rotK c (Z2m r k s)) (s.1, !s.2) = rotK c k := by
 obtain ⟨b, o⟩ := s
 have e : ((!o) == (!r)) = (o == r) := by cases o <;> cases r <;> rfl
 unfold Z2m
 simp only
 rw [e]
 unfold aft rotK
 split
 ·simp only
  refine Prod.ext ?_ ?_ <;> simp only <;> omega
 ·split
  ·refine Prod.ext ?_ ?_ <;> simp only <;> omega
  ·refine Prod.ext ?_ ?_ <;> simp only <;> omega
theorem Zh7 (r : Bool) (k : Knot) (s : Stp) (t : List Stp) : posK r k (s :: t) = posK r (Z2m r k s) t := rfl
theorem Zh8 (c : Knot) (r : Bool) : ∀ (l : List Stp) (k : Knot), posK (!r) (rotK c (posK r k l)) (revF l) = rotK c k
 | [], _ => rfl
 | s :: t, k => by rw [Zgy, Z2o, Zh7, Zh8 c r t (Z2m r k s), Zh6]
theorem Zh9 (c : Knot) (r : Bool) : ∀ (l : List Stp) (k : Knot), outK (!r) (rotK c (posK r k l)) (revF l) = (outK r k l).reverse.map (rotK c)
 | [], _ => rfl
 | s :: t, k => by
  have e := Zh8 c r (s :: t) k
  rw [Zgy] at e ⊢; rw [Z2q, e, Zh7, Zh9 c r t (Z2m r k s)]
  rw [outK, List.reverse_cons, List.map_append]; rfl
theorem Zha (r : Bool) : ∀ (a b : List Stp) (k : Knot), sidS r k (a ++ b) = sidS r k a ++ sidS r (posK r k a) b
 | [], _, _ => rfl
 | s :: t, b, k => by rw [List.cons_append, sidS, sidS, Zha r t b, List.append_assoc, Zh7]
theorem Zhb (c : Knot) (r : Bool) : ∀ (l : List Stp) (k : Knot), sidS (!r) (rotK c (posK r k l)) (revF l) = (sidS r k l).reverse.map fun x => (c.1 - x.2, c.1 - x.1)
 | [], _ => rfl
 | s :: t, k => by
  have e : sidS r k (s :: t) = (if s.1 = 78 then [(k.1, k.1), (k.1, k.1)] else if s.1 = 66 then [(k.1, (Z2m r k s).1)] else []) ++ sidS r (Z2m r k s) t := rfl
  rw [Zgy, Zha, Zh7, Zh8 c r t, Zhb c r t (Z2m r k s), e, List.reverse_append, List.map_append]
  congr 1
  rw [sidS, Zh6]; have e2 : sidS (!r) (rotK c k) [] = [] := rfl
  rw [e2, List.append_nil]; by_cases h1 : s.1 = 78
  ·have hx : (Z2m r k s).1 = k.1 := by unfold Z2m aft; rw [if_pos h1]
   rw [if_pos h1, if_pos h1]; unfold rotK; simp [hx]
  ·rw [if_neg h1, if_neg h1]
   by_cases h2 : s.1 = 66
   ·rw [if_pos h2, if_pos h2]
    unfold rotK; simp
   ·rw [if_neg h2, if_neg h2]
    rfl
theorem Zhc (l : List Stp) : Z2w (revF l) = Z2w l := by
 induction l with
 | nil => rfl
 | cons s t ih =>
  have e : Z2w [(s.1, !s.2)] = Z2v s.1 := by rw [Z2y]; show Z2v s.1 + 0 = _; omega
  rw [Zgy, Z2x, ih, e, Z2y s t]; omega
theorem Zhd (r : Bool) (k : Knot) (s : Stp) : ((Z2m r k s).1 + (Z2m r k s).2 - (k.1 + k.2)) % 2 = 0 := by
 unfold Z2m aft Z2l
 split
 ·simp only; omega
 ·split
  ·simp only; split <;> omega
  ·simp only; split <;> omega
theorem Zhe (r : Bool) : ∀ (l : List Stp) (k : Knot), ((posK r k l).1 + (posK r k l).2 - (k.1 + k.2)) % 2 = 0
 | [], k => by show (k.1 + k.2 - (k.1 + k.2)) % 2 = 0; omega
 | s :: t, k => by
  rw [Zh7]; have := Zhe r t (Z2m r k s)
  have := Zhd r k s
  omega
def trnP (p : Pan) : Pan := (p.1, (topX p true - topX p false).tdiv 2, oppL p.2.2.2, oppL p.2.2.1)
def topC (p : Pan) : Knot := (topX p true, Z35 p)
theorem Zhf {p : Pan} (ok : Zas p) (r : Bool) : posK r (Z34 p r) (stpL (Z33 p r)) = (topX p r, Z35 p) := Prod.ext rfl (Zax p r ok)
theorem Zhg {p : Pan} (ok : Zas p) (r : Bool) : (topX p r + Z35 p) % 2 = 0 := by
 have h := Zhe r (stpL (Z33 p r)) (Z34 p r)
 rw [Zhf ok r] at h
 cases r
 ·have h : (topX p false + Z35 p - (0 + 0)) % 2 = 0 := h
  omega
 ·have h : (topX p true + Z35 p - (2 * p.2.1 + 0)) % 2 = 0 := h
  omega
theorem Zhh {p : Pan} (ok : Zas p) : 2 * (trnP p).2.1 = topX p true - topX p false := by
 have h1 := Zhg ok false
 have h2 := Zhg ok true
 show 2 * ((topX p true - topX p false).tdiv 2) = _
 obtain ⟨m, hm⟩ : ∃ m, topX p true - topX p false = 2 * m := ⟨(topX p true - topX p false) / 2, by omega⟩
 rw [hm, Int.mul_tdiv_cancel_left m (by decide)]
theorem Zhi {p : Pan} (ok : Zas p) (r : Bool) : Z34 (trnP p) (!r) = rotK (topC p) (posK r (Z34 p r) (stpL (Z33 p r))) := by
 rw [Zhf ok r]
 have hw := Zhh ok
 cases r
 ·refine Prod.ext ?_ ?_
  ·show 2 * (trnP p).2.1 = topX p true - topX p false
   exact hw
  ·show (0 : Int) = Z35 p - Z35 p
   omega
 ·refine Prod.ext ?_ ?_
  ·show (0 : Int) = topX p true - topX p true
   omega
  ·show (0 : Int) = Z35 p - Z35 p
   omega
theorem Zhj (p : Pan) (r : Bool) : Z33 (trnP p) (!r) = oppL (Z33 p r) := by cases r <;> rfl
theorem Zhk {p : Pan} (ok : Zas p) (r : Bool) : outP (trnP p) (!r) = (outP p r).reverse.map (rotK (topC p)) := by
 unfold outP
 rw [Zhi ok, Zhj, Zh5]
 exact Zh9 _ _ _ _
theorem Zhl {p : Pan} (ok : Zas p) (r : Bool) : sidP (trnP p) (!r) = (sidP p r).reverse.map fun x => (topX p true - x.2, topX p true - x.1) := by
 unfold sidP
 rw [Zhi ok, Zhj, Zh5]
 exact Zhb _ _ _ _
theorem Zhm {p : Pan} (ok : Zas p) : Z35 (trnP p) = Z35 p := by
 show Z2w (stpL (oppL p.2.2.2)) = _
 rw [Zh5, Zhc, ok.same]
theorem Zhn (row : Int) : ∀ (a b : List Knot) (y X : Int), hits row y (a ++ b) X → hits row y a X ∨ hits row (Z6r y a) b X
 | [], _, _, _, h => .inr h
 | k :: r, b, y, X, h => by
  rw [List.cons_append] at h; unfold hits at h; rcases h with h | h
  ·exact .inl (.inl h)
  ·rcases Zhn row r b k.2 X h with h | h
   ·exact .inl (.inr h)
   ·exact .inr h
theorem Zho (c : Knot) (row X : Int) (r : Bool) : ∀ (l : List Stp) (k : Knot), hits row (c.2 - (posK r k l).2) ((outK r k l).reverse.map (rotK c)) X → hits (c.2 - row) k.2 (outK r k l) (c.1 - X)
 | [], k, h => by
  rcases h with ⟨h1, h2⟩ | h
  ·refine .inl ⟨Zc1 ?_, ?_⟩
   ·unfold hitR at h1
    rw [decide_eq_true_eq] at h1; have h1 : c.2 - k.2 = row ∨ c.2 - k.2 < row ∧ row < c.2 - k.2 := h1
    omega
   ·have h2 : c.1 - k.1 = X := h2
    omega
  ·exact h.elim
 | s :: t, k, h => by
  obtain ⟨r', hr'⟩ := Zbt r (Z2m r k s) t
  rw [Zh7] at h; have e : outK r k (s :: t) = k :: outK r (Z2m r k s) t := rfl
  rw [e, List.reverse_cons, List.map_append] at h; rw [e]; rcases Zhn _ _ _ _ _ h with h | h
  ·have ih := Zho c row X r t (Z2m r k s) h
   rw [hr'] at ih ⊢; exact .inr (Zc0 ih)
  ·rw [hr', List.reverse_cons, List.map_append] at h
   have hl := Z6s (r'.reverse.map (rotK c)) (c.2 - (posK r (Z2m r k s) t).2) (rotK c (Z2m r k s))
   have hl : Z6r (c.2 - (posK r (Z2m r k s) t).2) (List.map (rotK c) r'.reverse ++ List.map (rotK c) [Z2m r k s]) = (rotK c (Z2m r k s)).2 := hl
   rw [hl] at h; rcases h with ⟨h1, h2⟩ | h
   ·unfold hitR at h1
    rw [decide_eq_true_eq] at h1; have h1 : c.2 - k.2 = row ∨ c.2 - (Z2m r k s).2 < row ∧ row < c.2 - k.2 := h1
    have h2 : c.1 - k.1 = X := h2
    rcases h1 with h1 | ⟨h1, h3⟩
    ·exact .inl ⟨Zc1 (by omega), by omega⟩
    ·have hx := Z77 (right := r) (k := k) (s := s) (by omega)
     rw [hr']; exact .inr (.inl ⟨Zc2 (by omega) (by omega), by omega⟩)
   ·exact h.elim
theorem Zhp {p : Pan} (ok : Zas p) (r : Bool) {row X : Int} (h : hits row 0 (outP (trnP p) (!r)) X) : hits (Z35 p - row) 0 (outP p r) (topX p true - X) := by
 rw [Zhk ok] at h
 have hy := Zc4 p r
 have := Zho (topC p) row X r (stpL (Z33 p r)) (Z34 p r) (by
  rw [Zhf ok r]; show hits row (Z35 p - Z35 p) _ X
  rw [Int.sub_self]; exact h)
 rw [hy] at this
 exact this
theorem Zhq {p : Pan} (ok : Zas p) (y : Nat) (hy : (y : Int) ≤ Z35 p) : (rchI (outP (trnP p) false) (y : Nat)).2 + 2 ≤ (rchI (outP (trnP p) true) (y : Nat)).1 := by
 obtain ⟨z, hz⟩ : ∃ z : Nat, Z35 p - (y : Int) = z := ⟨(Z35 p - (y : Int)).toNat, by omega⟩
 have hf := Zc7 ok z (by omega)
 have n1 := Zcz p true ok.wid (ok.side true).1
 have n2 := Zcz p false ok.wid (ok.side false).1
 have t1 := Zgc ok true
 have f1 : (Z34 (trnP p) false).2 = 0 := rfl
 have f2 : (Z34 (trnP p) true).2 = 0 := rfl
 have q1 : (Z34 p true).2 = 0 := rfl
 have q2 : (Z34 p false).2 = 0 := rfl
 have k1 := fun X => Zhp (row := (y : Int)) (X := X) ok true
 have k2 := fun X => Zhp (row := (y : Int)) (X := X) ok false
 rw [hz] at k1 k2
 have k1 : ∀ X, hits (y : Int) 0 (outP (trnP p) false) X → hits (z : Int) 0 (outP p true) (topX p true - X) := k1
 have k2 : ∀ X, hits (y : Int) 0 (outP (trnP p) true) X → hits (z : Int) 0 (outP p false) (topX p true - X) := k2
 obtain ⟨s1, e1⟩ := Zbt false (Z34 (trnP p) false) (stpL (Z33 (trnP p) false))
 obtain ⟨s2, e2⟩ := Zbt true (Z34 (trnP p) true) (stpL (Z33 (trnP p) true))
 obtain ⟨s3, e3⟩ := Zbt true (Z34 p true) (stpL (Z33 p true))
 obtain ⟨s4, e4⟩ := Zbt false (Z34 p false) (stpL (Z33 p false))
 have e1 : outP (trnP p) false = Z34 (trnP p) false :: s1 := e1
 have e2 : outP (trnP p) true = Z34 (trnP p) true :: s2 := e2
 have e3 : outP p true = Z34 p true :: s3 := e3
 have e4 : outP p false = Z34 p false :: s4 := e4
 have a : (rchI (outP (trnP p) false) (y : Nat)).2 = -999999999 ∨ hits (y : Int) 0 (outP (trnP p) false) (rchI (outP (trnP p) false) (y : Nat)).2 := by
  rw [e1]; have := (Zgw (y : Nat) (Z34 (trnP p) false :: s1) 0 Z6q).2
  exact this
 have b : (rchI (outP (trnP p) true) (y : Nat)).1 = 999999999 ∨ hits (y : Int) 0 (outP (trnP p) true) (rchI (outP (trnP p) true) (y : Nat)).1 := by
  rw [e2]; have := (Zgw (y : Nat) (Z34 (trnP p) true :: s2) 0 Z6q).1
  exact this
 obtain ⟨A, hA⟩ : ∃ A, (rchI (outP (trnP p) false) (y : Nat)).2 = A := ⟨_, rfl⟩
 obtain ⟨B, hB⟩ : ∃ B, (rchI (outP (trnP p) true) (y : Nat)).1 = B := ⟨_, rfl⟩
 rw [hA] at a ⊢
 rw [hB] at b ⊢
 have qa : A = -999999999 ∨ (-200000 ≤ A ∧ A ≤ 200000) ∧ topX p true - A ≥ (rchI (outP p true) (z : Nat)).1 := a.imp id fun h => by
  have h := k1 _ h
  obtain ⟨k, hk, e⟩ := Zdh h
  have := n1 k hk
  rw [e3] at h ⊢; have := (Zbz (k := Z34 p true) (r := s3) h).1
  omega
 have qb : B = 999999999 ∨ (-200000 ≤ B ∧ B ≤ 200000) ∧ topX p true - B ≤ (rchI (outP p false) (z : Nat)).2 := b.imp id fun h => by
  have h := k2 _ h
  obtain ⟨k, hk, e⟩ := Zdh h
  have := n2 k hk
  rw [e4] at h ⊢; have := (Zbz (k := Z34 p false) (r := s4) h).2
  omega
 omega
theorem Zhr : ∀ (l : List Edg) (n : Int), (∀ e ∈ l, edgE e = 0) → n + (stpL l).length ≤ 512 → Z37 l n = 0
 | [], n, _, h => by
  unfold Z37 Z15; rw [decide_eq_false (by simp [stpL] at h; omega)]
  rfl
 | e :: r, n, h1, h2 => by
  unfold Z37; have h0 := h1 e (List.mem_cons_self ..)
  rw [if_pos h0]; obtain ⟨q1, q2, q3, q4, q5⟩ := Z39 h0
  refine Zhr r _ (fun x hx => h1 x (List.mem_cons_of_mem _ hx)) ?_
  rw [Z2i, List.length_append, Z2h] at h2; obtain ⟨t, ht⟩ : ∃ t : Nat, e.2.1 = t := ⟨e.2.1.toNat, by omega⟩
  rw [ht] at h2 ⊢; rw [Int.toNat_natCast, Nat.mul_comm] at h2; push_cast at h2 ⊢
  omega
theorem Zhs {l : List Edg} (h : Z3b l) : Z38 l = 0 := by
 unfold Z38
 rw [if_neg (by have := h.few; omega)]
 exact Zhr l 0 h.ok (by have := h.len; omega)
theorem Zht (e : Edg) : edgE (oppE e) = edgE e := by
 have h1 : ((oppE e).1 = []) = (e.1 = []) := by unfold oppE; simp
 have h2 : (oppE e).1.length = e.1.length := by unfold oppE; simp
 have h3 : Z36 (oppE e).1 = Z36 e.1 := by unfold Z36 oppE; simp [List.any_reverse]
 have h4 : (oppE e).2.1 = e.2.1 := rfl
 unfold edgE
 rw [h2, h3, h4]
 simp only [h1]
theorem Zhu {l : List Edg} (h : Z3b l) : Z3b (oppL l) := by
 refine ⟨?_, ?_, ?_⟩
 ·have := h.few
  unfold oppL; simpa using this
 ·intro e he
  unfold oppL at he; rw [List.mem_map] at he; obtain ⟨x, hx, rfl⟩ := he; rw [Zht]; exact h.ok x (List.mem_reverse.1 hx)
 ·rw [Zh5, Zgz]
  exact h.len
theorem Zhv {p : Pan} (ok : Zas p) : topX p false + 2 ≤ topX p true := by
 have hh := ok.high
 obtain ⟨y, hy⟩ : ∃ y : Nat, Z35 p = y := ⟨(Z35 p).toNat, by omega⟩
 have := Zhq ok 0 (by omega)
 have e1 : (rchI (outP (trnP p) false) ((0 : Nat) : Int)).2 ≥ 0 := by
  obtain ⟨s1, e1⟩ := Zbt false (Z34 (trnP p) false) (stpL (Z33 (trnP p) false))
  have e1 : outP (trnP p) false = Z34 (trnP p) false :: s1 := e1
  rw [e1]; exact (Zbz (k := Z34 (trnP p) false) (r := s1) (X := 0) (.inl ⟨Zc1 rfl, rfl⟩)).2
 have e2 : (rchI (outP (trnP p) true) ((0 : Nat) : Int)).1 ≤ 2 * (trnP p).2.1 := by
  obtain ⟨s1, e1⟩ := Zbt true (Z34 (trnP p) true) (stpL (Z33 (trnP p) true))
  have e1 : outP (trnP p) true = Z34 (trnP p) true :: s1 := e1
  rw [e1]; exact (Zbz (k := Z34 (trnP p) true) (r := s1) (X := 2 * (trnP p).2.1) (.inl ⟨Zc1 rfl, rfl⟩)).1
 have := Zhh ok
 omega
theorem Zhw {p : Pan} (h : panE p = 0) (hw : (trnP p).2.1 ≤ 128) : panE (trnP p) = 0 := by
 have ok := Zaw h
 obtain ⟨h0, h1⟩ := Zgs h
 obtain ⟨a1, _, _, _⟩ := Zgr (show Z17 [Z15 (!Z6k p.1) 8, Z16 p.2.1 1 128, Z38 p.2.2.1, Z38 p.2.2.2] = 0 from h0)
 have hh := Zhm ok
 have hh2 := ok.high
 have hap := Zhv ok
 have hw1 := Zhh ok
 have h0' : Z74 (trnP p) = 0 := by
  show Z17 [Z15 (!Z6k p.1) 8, Z16 (trnP p).2.1 1 128, Z38 (oppL p.2.2.2), Z38 (oppL p.2.2.1)] = 0
  rw [a1, Zhs (Zhu ok.left), Zhs (Zhu ok.right)]
  unfold Z16 Z15; rw [decide_eq_false (by omega), decide_eq_false (by omega)]
  rfl
 have h1' : Z75 (trnP p) = 0 := by
  unfold Z75; rw [hh]
  have e : Z2w (stpL (trnP p).2.2.2) = Z35 p := by
   show Z2w (stpL (oppL p.2.2.1)) = _
   rw [Zh5, Zhc]; rfl
  rw [e]; unfold Z15; rw [decide_eq_false (by omega), decide_eq_false (by omega), decide_eq_false (by omega)]
  rfl
 have hc : Z73 (outP (trnP p) false) (outP (trnP p) true) ((Z35 (trnP p)).toNat + 1) = false := by
  rw [hh]; unfold Z73; rw [List.any_eq_false]; intro y hy; have := Zhq ok y (by have := List.mem_range.1 hy; omega)
  simp only [decide_eq_true_eq]; omega
 unfold panE
 rw [if_neg (by simp [h0']), if_neg (by simp [h1']), hc]
 rfl
theorem Zhx {p : Pan} (h : panE p = 0) (hw : (trnP p).2.1 ≤ 128) {b : Bar} (hb : b ∈ netL p) : (topX p true - (b.1 + b.2.2), Z35 p - (b.2.1 + 1), b.2.2) ∈ netL (trnP p) := by
 have ok := Zaw h
 have ok2 := Zaw (Zhw h hw)
 obtain ⟨k, hk, hm⟩ := Zbl _ hb
 have e : (Z6y p).getD k (0, 0, 0, 0) = (Z6y p)[k] := by
  rw [List.getD_eq_getElem?_getD, List.getElem?_eq_getElem hk, Option.getD_some]
 rw [e] at hm
 obtain ⟨h1, h2, h3, h4, h5, h6, h7⟩ := Zbk hm
 obtain ⟨e1, e2⟩ := Zca ok
 obtain ⟨f1, f2⟩ := Zca ok2
 have hev := Zhg ok true
 have hh := ok.high
 have hn := Zb3 p
 have hl : (Z6y (trnP p)).length = (Z6y p).length := by
  rw [Zb3, Zb3, Zhm ok]
 obtain ⟨j, hj⟩ : ∃ j, j = (Z6y p).length - 1 - k := ⟨_, rfl⟩
 have hk2 : j < (Z6y (trnP p)).length := by omega
 have s1 : sidP (trnP p) false = (sidP p true).reverse.map fun x => (topX p true - x.2, topX p true - x.1) := Zhl ok true
 have s2 : sidP (trnP p) true = (sidP p false).reverse.map fun x => (topX p true - x.2, topX p true - x.1) := Zhl ok false
 have q1 : k < (sidP p false).length := by omega
 have q2 : k < (sidP p true).length := by omega
 have q3 : j < (sidP (trnP p) false).length := by omega
 have q4 : j < (sidP (trnP p) true).length := by omega
 have g1 : (sidP (trnP p) false)[j] = (topX p true - (sidP p true)[k].2, topX p true - (sidP p true)[k].1) := by
  simp only [s1, List.getElem_map, List.getElem_reverse]; have : (sidP p true).length - 1 - j = k := by omega
  simp only [this]
 have g2 : (sidP (trnP p) true)[j] = (topX p true - (sidP p false)[k].2, topX p true - (sidP p false)[k].1) := by
  simp only [s2, List.getElem_map, List.getElem_reverse]; have : (sidP p false).length - 1 - j = k := by omega
  simp only [this]
 refine Zdi (k := j) ?_ _ hk2
 rw [List.getD_eq_getElem?_getD, List.getElem?_eq_getElem hk2, Option.getD_some, Zc9 j hk2 q3 q4, g1, g2]
 rw [Zc9 k hk q1 q2] at h2 h3 h6 h7
 obtain ⟨x, y, c⟩ := b
 simp only at h1 h2 h3 h4 h5 h6 h7
 subst h1
 have ey : Z35 p - ((k : Int) + 1) = (j : Int) := by omega
 show (topX p true - (x + c), Z35 p - ((k : Int) + 1), c) ∈ _
 rw [ey]
 refine Zgv ?_ ?_ ?_ ?_ ?_ ?_
 all_goals first
  | omega
  | (simp only; omega)
theorem Zhy {p : Pan} (ok : Zas p) (r : Bool) : posK (!r) (Z34 (trnP p) (!r)) (stpL (Z33 (trnP p) (!r))) = rotK (topC p) (Z34 p r) := by
 rw [Zhi ok, Zhj, Zh5]
 exact Zh8 _ _ _ _
theorem Zhz {p : Pan} (ok : Zas p) : (trnP (trnP p)).2.1 = p.2.1 := by
 have h1 : topX (trnP p) true = topX p true - 0 := congrArg Prod.fst (Zhy ok false)
 have h2 : topX (trnP p) false = topX p true - 2 * p.2.1 := congrArg Prod.fst (Zhy ok true)
 show (topX (trnP p) true - topX (trnP p) false).tdiv 2 = _
 rw [h1, h2, show topX p true - 0 - (topX p true - 2 * p.2.1) = 2 * p.2.1 by omega, Int.mul_tdiv_cancel_left _ (by decide)]
theorem Zi0 (e : Edg) : oppE (oppE e) = e := by
 obtain ⟨a, b, c⟩ := e
 simp [oppE]
theorem Zi1 (l : List Edg) : oppL (oppL l) = l := by
 unfold oppL
 simp [List.map_reverse, Function.comp_def, Zi0]
theorem Zi2 {p : Pan} (ok : Zas p) : trnP (trnP p) = p := by
 have h := Zhz ok
 obtain ⟨n, w, l, r⟩ := p
 show (n, (trnP (trnP (n, w, l, r))).2.1, oppL (oppL l), oppL (oppL r)) = (n, w, l, r)
 rw [h, Zi1, Zi1]
attribute [local go_sem] Oper.semAt_some
theorem Zi3 (wd : List UInt8) (c : UInt8) : (({ data := wd.toArray } : ByteArray) ++ { data := #[c] }) = { data := (wd ++ [c]).toArray } := by
 apply ByteArray.ext
 simp [ByteArray.data_append]
end Go.Proofs.YtpcgeihemkhkjaaGreatDoor
namespace Go.Proofs.YtpcgeihemkhkjaaGreatDoor
open Go.RowKit Go.ChangeMaps
set_option maxHeartbeats 4000000
set_option maxRecDepth 100000
variable {l : List Bar} {lo hi : Nat → Int} {H : Nat}
attribute [local go_sem] Oper.semAt_some
theorem Zi4 {vL vR : Value} (p : Pan) (w : World) (hnm : p.1.length ≤ 1000000) (hL : SlE w vL p.2.2.1) (hR : SlE w vR p.2.2.2) (hwL : ∀ e ∈ p.2.2.1, e.1.length ≤ 1000000) (hwR : ∀ e ∈ p.2.2.2, e.1.length ≤ 1000000) :
    Calls Tryz.prog 75 #[.agg #[sV p.1, .int .i64 p.2.1, vL, vR]] w (RV w (.int .i64 (panE p))) := by
  have hN := fun h => Zd2 (p := p) h
  have hY := fun h => Zd1 (p := p) h
  have hZ2 := fun h => Zd3 (p := p) h
  have hnear := fun right h1 h2 => Zcz p right h1 h2
  have hhr := Zat p
  have hrO := fun right W hl hr hb (hB : Below w.heap.size w W) => Zcq p right W (hL.below hB) (hR.below hB) hl hr hb
  have hrH := fun W hl (hB : Below w.heap.size w W) => Zcr (vR := vR) p W (hL.below hB) hl
  have hsL := fun W (hB : Below w.heap.size w W) => Zcg p.2.2.1 W (hL.below hB) hwL
  have hsR := fun W (hB : Below w.heap.size w W) => Zcg p.2.2.2 W (hR.below hB) hwR
  have hSR := fun W hr (hB : Below w.heap.size w W) => Zcl p.2.2.2 W (hR.below hB) hr
  have hF : ∀ A c' W, Rd ic 1 W A [Z16 p.2.1 1 128, Z38 p.2.2.1, Z38 p.2.2.2] → Calls Tryz.prog 80 #[.slice A 3 c'] W (RV W (.int .i64 (Zd0 p))) := fun A c' W hr => Z59 [Z16 p.2.1 1 128, Z38 p.2.2.1, Z38 p.2.2.2] A c' W (by simp [maxLen]) hr
  have hP1 : Z75 p = Z17 [Z15 (decide (Z35 p ≠ Z2w (stpL p.2.2.2))) 2, Z15 (decide (Z35 p = 0)) 12, Z15 (decide (256 < Z35 p)) 4] := rfl
  have ho : ∀ right, (outP p right).length = (stpL (Z33 p right)).length + 1 := fun right => Z2p _ _ _
  have HOL := Lib.hid (ho false)
  have HOR := Lib.hid (ho true)
  obtain ⟨AL, cL, rfl, hLc, hLm, rL⟩ := hL; obtain ⟨AR, cR, rfl, hRc, hRm, rR⟩ := hR; have hB1 := Blk.new w 86 #[sV p.1, .int .i64 p.2.1, .slice AL p.2.2.1.length cL, .slice AR p.2.2.2.length cR]
  have HS2 : Hid (stpL p.2.2.2 = stpL (Z33 p true)) := rfl
  have HS1 : Hid (stpL p.2.2.1 = stpL (Z33 p false)) := rfl
  have hrn := Z6m p.1 hnm
  unfold sV at hB1 hrO hrH hrn ⊢; obtain ⟨E, hE⟩ : ∃ E, panE p = E := ⟨_, rfl⟩
  obtain ⟨H, hH⟩ : ∃ E, Z35 p = E := ⟨_, rfl⟩
  obtain ⟨E2, hE2⟩ : ∃ E, Zd0 p = E := ⟨_, rfl⟩
  obtain ⟨E1, hE1⟩ : ∃ E, Z75 p = E := ⟨_, rfl⟩
  obtain ⟨q, hq⟩ : ∃ E, Z6k p.1 = E := ⟨_, rfl⟩
  obtain ⟨SR, hSr⟩ : ∃ E, stpL p.2.2.2 = E := ⟨_, rfl⟩
  rw [hSr] at hSR hP1 HS2; have HS3 := Lib.hid hSr
  rw [hq] at hN hY hZ2 hrn; rw [hE2] at hF hY hZ2; rw [hE] at hN hY ⊢; rw [hH] at hY hrH hP1 hhr; rw [hE1] at hY hP1; clear rL rR hE hE2 hE1 hq hH hSr hwL hwR ho hnm; have hf1 := hB1.facts
  cases q
  · have HN := Lib.hid (hN rfl)
    clear hN hY; go_enter Tryz.func75, Tryz.ntmps75
    go_wp2_with (go_at_call 79; refine (hrn _).mono ?_; rintro e w1 ⟨rfl, hb1⟩)
    go_ret; exact ⟨by rw [HN.out]; rfl, by (repeat first|exact J0|assumption|(apply J1;assumption)|apply J2|apply J3|apply J4)⟩
  · have HY := Lib.hid (hY rfl)
    have HZ := Lib.hid (hZ2 rfl)
    clear hN hY hZ2; go_enter Tryz.func75, Tryz.ntmps75
    go_wp2_with fail; refine (hrn _).mono ?_
    rintro e w1 ⟨rfl, hb1⟩; replace hB1 := hB1.below (show Below _ _ w1 by (repeat first|exact J0|assumption|(apply J1;assumption)|apply J2|apply J3|apply J4))
    replace fhB1 := hB1.facts
    have hk1 := hB1.facts
    go_upto_region 3 with fail; refine Z0z [0, 1, 3, 4, 6, 7] [(2, false), (5, false)] [8, 9, 10, 11] (by kernel_rfl) (by kernel_rfl) (fun d _ _ _ _ h => by cases d <;> exact h) ?_
    simp only [List.map_cons, List.map_nil, List.getD_cons_zero, List.getD_cons_succ]; repeat (go_big_quiet_step (fail))
    refine wpQuiet_nil ?_; refine Z11 rfl (fun K hK => ?_); go_simp; refine (Z5a _ 1 128 _).mono ?_
    rintro e w2 ⟨rfl, hb2⟩; refine hK _ _ (by (repeat first|exact J0|assumption|(apply J1;assumption)|apply J2|apply J3|apply J4)) ?_
    clear hK K; have hB1_w2 := hB1.below (show Below _ _ w2 by (repeat first|exact J0|assumption|(apply J1;assumption)|apply J2|apply J3|apply J4))
    have fhB1_w2 := hB1_w2.facts
    refine Z11 rfl (fun K hK => ?_); go_simp; refine (hsL _ (by (repeat first|exact J0|assumption|(apply J1;assumption)|apply J2|apply J3|apply J4))).mono ?_
    rintro e w3 ⟨rfl, hb3⟩; refine hK _ _ (by (repeat first|exact J0|assumption|(apply J1;assumption)|apply J2|apply J3|apply J4)) ?_
    clear hK K; have hB1_w3 := hB1.below (show Below _ _ w3 by (repeat first|exact J0|assumption|(apply J1;assumption)|apply J2|apply J3|apply J4))
    have fhB1_w3 := hB1_w3.facts
    refine Z10 ?_; go_wp2_with (go_at_call 137; refine (hsR _ (by (repeat first|exact J0|assumption|(apply J1;assumption)|apply J2|apply J3|apply J4))).mono ?_; rintro e w4 ⟨rfl, hb4⟩)
    go_must (refine (hF _ _ _ (Rd.ints3 (by simp) (by go_simp) (by go_simp) (by go_simp))).mono ?_)
    rintro e w5 ⟨rfl, hb5⟩; have hB5 := hB1.below (show Below w1.heap.size w1 w5 by (repeat first|exact J0|assumption|(apply J1;assumption)|apply J2|apply J3|apply J4))
    have hbw5 : Below w.heap.size w w5 := by (repeat first|exact J0|assumption|(apply J1;assumption)|apply J2|apply J3|apply J4)
    clear hF hsL hsR hb1 hb2 hb3 hb4 hb5 hB1 hk1; have hf5 := hB5.facts
    by_cases hz : E2 = 0
    · have t5 : (E2 != 0) = false := by simp [hz]
      obtain ⟨hwd, hlok, hrok⟩ := HZ.out hz
      have HY2 : Hid (E = if E1 ≠ 0 then E1 else Z15 (Z73 (outP p false) (outP p true) (H.toNat + 1)) 16) := by unfold Hid; rw [HY.out, if_neg (by simp [hz])]
      have hwd' : 0 ≤ p.2.1 ∧ p.2.1 ≤ 128 := ⟨by omega, hwd.2⟩
      have hll := hlok.len
      have hrl := hrok.len
      rw [HS1.out] at hll hhr; rw [HS3.out] at hrl; clear hz HY HZ; go_wp2_with fail; refine (hrH _ hlok hbw5).mono ?_
      rintro e w6 ⟨rfl, hb6⟩; replace hB5 := hB5.below (show Below _ _ w6 by (repeat first|exact J0|assumption|(apply J1;assumption)|apply J2|apply J3|apply J4))
      replace fhB5 := hB5.facts
      go_wp2_with fail; refine (hSR _ hrok (by (repeat first|exact J0|assumption|(apply J1;assumption)|apply J2|apply J3|apply J4))).mono ?_
      rintro e w7 ⟨v7, rfl, hO7, hb7⟩; replace hB5 := hB5.below (show Below _ _ w7 by (repeat first|exact J0|assumption|(apply J1;assumption)|apply J2|apply J3|apply J4))
      replace fhB5 := hB5.facts
      go_wp2_with fail; refine (Zcj SR _ (hO7.rd Z8j) (by omega)).mono ?_
      rintro e w8 ⟨rfl, hb8⟩; replace hB5 := hB5.below (show Below _ _ w8 by (repeat first|exact J0|assumption|(apply J1;assumption)|apply J2|apply J3|apply J4))
      replace fhB5 := hB5.facts
      obtain ⟨RR, hRR⟩ : ∃ z, Z2w SR = z := ⟨_, rfl⟩
      rw [hRR] at hP1 ⊢; have hbw8 : Below w.heap.size w w8 := by (repeat first|exact J0|assumption|(apply J1;assumption)|apply J2|apply J3|apply J4)
      clear hRR hO7 hb6 hb7 hb8 hbw5 hSR hrH; by_cases c1 : H = RR
      · by_cases c2 : H = 0
        · have HT : Hid (E = 12) := by
            have : E1 = 12 := by rw [hP1, c2, ← c1, c2]; rfl
            unfold Hid; rw [HY2.out, this]; rfl
          subst c1; subst c2; clear hP1 HY2; go_wp2; go_ret; exact ⟨by rw [HT.out]; rfl, hbw8⟩
        · have s2 : (H == 0) = false := beq_false_of_ne c2
          by_cases c3 : 256 < H
          · have HT : Hid (E = 4) := by
              have : E1 = 4 := by rw [hP1, ← c1, decide_eq_false (by simp), decide_eq_false c2, decide_eq_true c3]; rfl
              unfold Hid; rw [HY2.out, this]; rfl
            have s3 : (256 < H) = True := eq_true c3
            subst c1; clear hP1 HY2 c2 c3; go_wp2; go_ret; exact ⟨by rw [HT.out]; rfl, hbw8⟩
          · have s3 : (256 < H) = False := eq_false c3
            have HT : Hid (E = Z15 (Z73 (outP p false) (outP p true) (H.toNat + 1)) 16) := by
              have : E1 = 0 := by rw [hP1, ← c1, decide_eq_false (by simp), decide_eq_false c2, decide_eq_false c3]; rfl
              unfold Hid; rw [HY2.out, this]; rfl
            have hH0 := hhr.1
            obtain ⟨n, hn⟩ : ∃ n : Nat, H = n := ⟨H.toNat, by omega⟩
            have hn2 : n ≤ 256 := by omega
            have nL := hnear false hwd (by omega)
            have nR := hnear true hwd (by rw [← HS2.out]; omega)
            have hoL := hrO false
            have hoR := hrO true
            obtain ⟨OL, hOL⟩ : ∃ z, outP p false = z := ⟨_, rfl⟩
            obtain ⟨OR, hOR⟩ : ∃ z, outP p true = z := ⟨_, rfl⟩
            have hlL : OL.length ≤ 513 := by have := HOL.out; rw [hOL] at this; omega
            have hlR : OR.length ≤ 513 := by have := HOR.out; rw [hOR, ← HS2.out] at this; omega
            rw [hOL] at hoL nL HT; rw [hOR] at hoR nR HT; subst c1; subst hn; rw [Int.toNat_natCast] at HT; clear hP1 HY2 c2 c3 hrO hnear hOL hOR HOL HOR hhr hH0; go_upto_region 13 with fail; refine Z0z [0, 2] [(1, false)] [3, 4, 5] (by kernel_rfl) (by kernel_rfl) (fun d _ _ _ _ h => by cases d <;> exact h) ?_
            simp only [List.map_cons, List.map_nil, List.getD_cons_zero, List.getD_cons_succ]; repeat (go_big_quiet_step (fail))
            refine wpQuiet_nil ?_; refine Z11 rfl (fun K hK => ?_); go_simp; refine (hoL _ hlok hrok hwd' (by (repeat first|exact J0|assumption|(apply J1;assumption)|apply J2|apply J3|apply J4))).mono ?_
            rintro e w9 ⟨v9, rfl, hO9, hb9⟩; refine hK _ _ (by (repeat first|exact J0|assumption|(apply J1;assumption)|apply J2|apply J3|apply J4)) ?_
            clear hK K; have hB5_w9 := hB5.below (show Below _ _ w9 by (repeat first|exact J0|assumption|(apply J1;assumption)|apply J2|apply J3|apply J4))
            have fhB5_w9 := hB5_w9.facts
            obtain ⟨A9, c9, rfl⟩ := hO9.shape; refine Z10 ?_; go_wp2_with (first | (go_at_call 138; refine (hoR _ hlok hrok hwd' (by (repeat first|exact J0|assumption|(apply J1;assumption)|apply J2|apply J3|apply J4))).mono ?_; rintro e w10 ⟨v10, rfl, hO10, hb10⟩; obtain ⟨A10, c10, rfl⟩ := hO10.shape) | (at_builtin; refine Z43 (Own.empty kc 2 w10 _) (((hO9.below hb10).rd Z21).alloc _) rfl _ _ rfl rfl rfl (by simp; omega) (by simp) ?_; intro v11 w11 hO11 hgr11; have hb11 : Below w10.heap.size w10 w11 := Z09 hgr11 (Z04 Z03 _) fun k hk => by simp [Value.ownBlock] at hk; omega) | (at_builtin; refine Z43 hO11 ((hO10.rd Z21).below hb11) rfl _ _ rfl rfl rfl (by simp; omega) hb11.size ?_; intro v12 w12 hO12 hgr12; have hb12 := Z41 hO11 hgr12 hb11))
            simp only [List.nil_append] at hO12; obtain ⟨A12, c12, rfl, _, _, hr12⟩ := hO12.rd Z21
            have hAl : ∀ k ∈ OL ++ OR, -4096 ≤ k.1 ∧ k.1 ≤ 4096 := fun k hk => by
              rcases List.mem_append.1 hk with h | h
              · exact nL k h
              · exact nR k h
            have sL := (((hO9.below hb10).rd Z21).below hb12)
            have sR := ((hO10.rd Z21).below hb12)
            have hbw12 : Below w.heap.size w w12 := by (repeat first|exact J0|assumption|(apply J1;assumption)|apply J2|apply J3|apply J4)
            have hall : (OL ++ OR).length ≤ 1026 := by simp; omega
            obtain ⟨AL2, hAL2⟩ : ∃ z, OL ++ OR = z := ⟨_, rfl⟩
            rw [hAL2] at hr12 hAl hall ⊢; clear hAL2 hO9 hO10 hO11 hO12 hgr11 hgr12 hb9 hb10 hb11 hb12 hbw8 hoL hoR; go_loopw [8] (fun i wr => ∃ k : Nat, k ≤ AL2.length ∧ i = .int .i64 k ∧ Below w12.heap.size w12 wr) (fun i _ => AL2.length - (intOf i).toNat)
            case atStart => exact ⟨0, Nat.zero_le _, rfl, Z03⟩
            case round =>
              obtain ⟨k, hk, rfl, hbr⟩ := hrel; obtain ⟨wo, rfl⟩ : ∃ x, x = wr := ⟨_, rfl⟩
              by_cases hlt : k < AL2.length
              · obtain ⟨b, off, rfl, hb, e0, e1⟩ := (hr12.below hbr).knot hlt
                have hx := hAl _ (List.getElem_mem hlt)
                obtain ⟨⟨X, Y⟩, hX⟩ : ∃ z, AL2[k] = z := ⟨_, rfl⟩
                rw [hX] at e0 e1 hx; simp only at e0 e1 hx
                have r1 : (X < -4096) = False := eq_false (by omega)
                have r2 : (4096 < X) = False := eq_false (by omega)
                clear hX hx; go_wp2; go_roundw; case rel => exact ⟨k + 1, by omega, by go_num, hbr⟩
                case measure => simp [intOf]; omega
              · obtain rfl : k = AL2.length := by omega
                go_wp2_with fail; refine (Zcy OL OR n _ (sL.below hbr) (sR.below hbr) (fun k hk => by have := nL k hk; omega) (fun k hk => by have := nR k hk; omega) (by omega) (by omega) (by omega)).mono ?_
                rintro e w14 ⟨rfl, hb14⟩; obtain ⟨cb, hcb⟩ : ∃ z, Z73 OL OR (n + 1) = z := ⟨_, rfl⟩
                rw [hcb] at HT ⊢; cases cb
                all_goals
                  go_wp2; go_ret; exact ⟨by rw [HT.out]; rfl, by (repeat first|exact J0|assumption|(apply J1;assumption)|apply J2|apply J3|apply J4)⟩
      · have s1 : (H != RR) = true := by simpa using c1
        have HT : Hid (E = 2) := by
          have : E1 = 2 := by rw [hP1, decide_eq_true c1]; rfl
          unfold Hid; rw [HY2.out, this]; rfl
        clear hP1 HY2 c1; go_wp2; go_ret; exact ⟨by rw [HT.out]; rfl, hbw8⟩
    · have t5 : (E2 != 0) = true := by simpa using hz
      have HT : Hid (E = E2) := by unfold Hid; rw [HY.out, if_pos hz]
      go_wp2; go_ret; exact ⟨by rw [HT.out]; rfl, hbw5⟩
end Go.Proofs.YtpcgeihemkhkjaaGreatDoor

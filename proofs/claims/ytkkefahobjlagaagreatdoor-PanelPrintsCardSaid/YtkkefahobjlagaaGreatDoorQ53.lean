/- What is printed is parsed again, plain. Conditions: the panels are valid. -/
import Derived.Test.YtkkefahobjlagaaGreatDoorQ52
import Derived.Test.YtkkefahobjlagaaGreatDoorQ28
import Derived.Test.YtkkefahobjlagaaGreatDoorQ17
namespace Go.Proofs.YtkkefahobjlagaaGreatDoor
open Go.RowKit Go.ChangeMaps
set_option maxHeartbeats 4000000
set_option maxRecDepth 100000
theorem okC_no {i n : Nat} (h : okC i n = true) : n ≠ 32 ∧ n ≠ 10 := by
 unfold okC letC at h
 simp only [Bool.or_eq_true, Bool.and_eq_true, decide_eq_true_eq] at h
 omega
theorem nmF_no : ∀ (s : Str) (i : Nat), nmF i s = true → ∀ c ∈ s, c.toNat ≠ 32 ∧ c.toNat ≠ 10
 | [], _, _, c, hc => by cases hc
 | b :: r, i, h, c, hc => by
  unfold nmF at h
  rw [Bool.and_eq_true] at h
  rcases List.mem_cons.1 hc with rfl | hc
  ·exact okC_no h.1
  ·exact nmF_no r (i + 1) h.2 c hc
structure Wd (s : Str) : Prop where
 ne : s ≠ []
 sp : 32 ∉ s
 nl : 10 ∉ s
theorem name_wd {s : Str} (h : nameR s = true) : Wd s := by
 unfold nameR at h
 simp only [Bool.and_eq_true, decide_eq_true_eq] at h
 obtain ⟨h1, _, h3⟩ := h
 refine ⟨fun e => h1 (by rw [e]; rfl), fun hc => ?_, fun hc => ?_⟩
 ·exact (nmF_no s 0 h3 _ hc).1 rfl
 ·exact (nmF_no s 0 h3 _ hc).2 rfl
theorem word_wd {e : Edg} (h : edgE e = 0) : Wd e.1 := by
 obtain ⟨h1, _, h3, _⟩ := edgE_zero h
 unfold wrongW at h3
 rw [List.any_eq_false] at h3
 refine ⟨h1, fun hc => ?_, fun hc => ?_⟩
 ·exact h3 _ hc (by decide)
 ·exact h3 _ hc (by decide)
theorem num_wd (n : Int) : Wd (Lib.itoa n) := by
 refine ⟨?_, itoa_no (by decide), itoa_no (by decide)⟩
 unfold Lib.itoa
 split
 ·simp
 ·exact dec_ne _
theorem way_wd (o : Bool) : Wd (wayS o) := by
 cases o
 ·exact ⟨by decide, by decide, by decide⟩
 ·exact ⟨by decide, by decide, by decide⟩
theorem dec_itoa {n : Int} (h : 0 ≤ n ∧ n ≤ 999999) : decR (Lib.itoa n) = (n, true) := by
 unfold decR
 rw [atoiAll_itoa (by omega)]
 have := itoa_len (n := n) (by omega)
 simp only [Prod.mk.injEq, Bool.and_eq_true, decide_eq_true_eq, true_and]
 exact ⟨⟨by omega, h.1⟩, trivial⟩
theorem par_line {x : Str} (hx : 10 ∉ x) (t : Str) (l : List Pan) (o : Option Pan) (st : Str) (k : Nat) :
  parP (linesL (x ++ 10 :: t)) l o st k = if rdE (splS x) true l o st = 0 then parP (linesL t) (rdN (splS x) l o).1 (rdN (splS x) l o).2 ((splS x).getD 0 []) (k + 1) else ([], (k : Int), rdE (splS x) true l o st) := by
 obtain ⟨e1, e2, e3⟩ := rd_line (x := x) l o st
 rw [splA_32] at e1 e2 e3
 rw [lines_app _ hx, parP, e1, e2, e3]
theorem fol_in {st : Str} (h : st = wPan ∨ st = wLeft ∨ st = wRight) : st ∈ folL wRight ∧ st ∈ folL wEnd := by
 rw [fol_right, fol_end]
 rcases h with rfl | rfl | rfl <;> decide
theorem rdE_open {W : List Str} {l : List Pan} {p : Pan} {st : Str} (h1 : st ∈ folL (W.getD 0 [])) (h2 : W.getD 0 [] ≠ wPan) : rdE W true l (some p) st = if W.getD 0 [] = wEnd then finE W l p else edgeE W := by
 unfold rdE
 rw [if_neg (by rintro (q | q); cases q; exact q h1), if_neg h2]
 rfl
theorem rdN_open {W : List Str} {l : List Pan} {p : Pan} (h2 : W.getD 0 [] ≠ wPan) : rdN W l (some p) = if W.getD 0 [] = wEnd then (l ++ [p], none) else (l, some (edgeP W p)) := by
 unfold rdN
 rw [if_neg h2]
 rfl
theorem par_head {p : Pan} (h : PanOk p) {st : Str} (hst : st = [] ∨ st = wEnd) {l : List Pan} (hl : l.length ≠ 16) (t : Str) (k : Nat) :
  parP (linesL (headS p ++ t)) l none st k = parP (linesL t) l (some (p.1, p.2.1, [], [])) wPan (k + 1) := by
 have hn := name_wd h.name
 have hm := num_wd p.2.1
 have hw := h.wid
 have e : headS p ++ t = joinS [wPan, p.1, Lib.itoa p.2.1] ++ 10 :: t := by
  simp [headS, joinS, wPan]
 have hs : splS (joinS [wPan, p.1, Lib.itoa p.2.1]) = [wPan, p.1, Lib.itoa p.2.1] := splS_join (by simp) fun w hw => by
  simp only [List.mem_cons, List.not_mem_nil, or_false] at hw
  rcases hw with rfl | rfl | rfl
  ·decide
  ·exact hn.sp
  ·exact hm.sp
 have hx : 10 ∉ joinS [wPan, p.1, Lib.itoa p.2.1] := by
  simp only [joinS, List.mem_append, List.mem_cons, not_or]
  exact ⟨by decide, by decide, hn.nl, by decide, hm.nl⟩
 have hd := dec_itoa (n := p.2.1) (by omega)
 rw [e, par_line hx, hs]
 have e1 : rdE [wPan, p.1, Lib.itoa p.2.1] true l none st = 0 := by
  have hm : ¬ (true = false ∨ st ∉ folL ([wPan, p.1, Lib.itoa p.2.1].getD 0 [])) := by
   show ¬ (true = false ∨ st ∉ folL wPan)
   rw [fol_pan]
   rcases hst with rfl | rfl <;> simp
  unfold rdE
  rw [if_neg hm, if_pos (show [wPan, p.1, Lib.itoa p.2.1].getD 0 [] = wPan from rfl)]
  show (if (3 : Nat) ≠ 3 ∨ p.1 = [] then 25 else firstI [whenI (!(decR (Lib.itoa p.2.1)).2) 25, whenI (decide (l.length = 16)) 5]) = 0
  rw [if_neg (by rintro (q | q); exact q rfl; exact hn.ne q), hd, decide_eq_false hl]
  rfl
 have e2 : rdN [wPan, p.1, Lib.itoa p.2.1] l none = (l, some (p.1, p.2.1, [], [])) := by
  unfold rdN
  rw [if_pos (show [wPan, p.1, Lib.itoa p.2.1].getD 0 [] = wPan from rfl)]
  show (l, some (p.1, (decR (Lib.itoa p.2.1)).1, [], [])) = _
  rw [hd]
 rw [e1, if_pos rfl, e2]
 rfl
theorem par_edge {e : Edg} (h : edgE e = 0) {sd st : Str} (hsd : sd = wLeft ∨ sd = wRight) (hst : st ∈ folL sd) (l : List Pan) (q : Pan) (t : Str) (k : Nat) :
  parP (linesL (lineS sd e ++ t)) l (some q) st k = parP (linesL t) l (some (if sd = wLeft then (q.1, q.2.1, q.2.2.1 ++ [e], q.2.2.2) else (q.1, q.2.1, q.2.2.1, q.2.2.2 ++ [e]))) sd (k + 1) := by
 have hn := word_wd h
 have hm := num_wd e.2.1
 have hw := way_wd e.2.2
 obtain ⟨_, _, _, b1, b2⟩ := edgE_zero h
 have hd := dec_itoa (n := e.2.1) (by omega)
 have hsw : Wd sd := by rcases hsd with rfl | rfl <;> exact ⟨by decide, by decide, by decide⟩
 have hs1 : sd ≠ wPan := by rcases hsd with rfl | rfl <;> decide
 have hs2 : sd ≠ wEnd := by rcases hsd with rfl | rfl <;> decide
 have e0 : lineS sd e ++ t = joinS [sd, e.1, Lib.itoa e.2.1, wayS e.2.2] ++ 10 :: t := by
  simp [lineS, joinS]
 have hs : splS (joinS [sd, e.1, Lib.itoa e.2.1, wayS e.2.2]) = [sd, e.1, Lib.itoa e.2.1, wayS e.2.2] := splS_join (by simp) fun w hw' => by
  simp only [List.mem_cons, List.not_mem_nil, or_false] at hw'
  rcases hw' with rfl | rfl | rfl | rfl
  ·exact hsw.sp
  ·exact hn.sp
  ·exact hm.sp
  ·exact hw.sp
 have hx : 10 ∉ joinS [sd, e.1, Lib.itoa e.2.1, wayS e.2.2] := by
  simp only [joinS, List.mem_append, List.mem_cons, not_or]
  exact ⟨hsw.nl, by decide, hn.nl, by decide, hm.nl, by decide, hw.nl⟩
 have ew : edgW [sd, e.1, Lib.itoa e.2.1, wayS e.2.2] = e := by
  show (e.1, (decR (Lib.itoa e.2.1)).1, wayS e.2.2 == wOut) = e
  rw [hd]
  obtain ⟨a, b, o⟩ := e
  cases o <;> rfl
 have eE : edgeE [sd, e.1, Lib.itoa e.2.1, wayS e.2.2] = 0 := by
  unfold edgeE
  rw [ew, h, if_neg]
  rintro (q | q | ⟨q, q'⟩ | q)
  ·exact q rfl
  ·exact hn.ne q
  ·have q : wayS e.2.2 ≠ wOut := q
   have q' : wayS e.2.2 ≠ wIn := q'
   cases ho : e.2.2
   ·rw [ho] at q'; exact q' rfl
   ·rw [ho] at q; exact q rfl
  ·have q : (decR (Lib.itoa e.2.1)).2 = false := q
   rw [hd] at q
   cases q
 rw [e0, par_line hx, hs]
 have e1 : rdE [sd, e.1, Lib.itoa e.2.1, wayS e.2.2] true l (some q) st = 0 := by
  rw [rdE_open (W := [sd, e.1, Lib.itoa e.2.1, wayS e.2.2]) hst hs1, if_neg (show ¬ [sd, e.1, Lib.itoa e.2.1, wayS e.2.2].getD 0 [] = wEnd from hs2), eE]
 have e2 : rdN [sd, e.1, Lib.itoa e.2.1, wayS e.2.2] l (some q) = (l, some (edgeP [sd, e.1, Lib.itoa e.2.1, wayS e.2.2] q)) := by
  rw [rdN_open (W := [sd, e.1, Lib.itoa e.2.1, wayS e.2.2]) hs1, if_neg (show ¬ [sd, e.1, Lib.itoa e.2.1, wayS e.2.2].getD 0 [] = wEnd from hs2)]
 have e3 : edgeP [sd, e.1, Lib.itoa e.2.1, wayS e.2.2] q = if sd = wLeft then (q.1, q.2.1, q.2.2.1 ++ [e], q.2.2.2) else (q.1, q.2.1, q.2.2.1, q.2.2.2 ++ [e]) := by
  unfold edgeP
  rw [ew]
  rfl
 rw [e1, if_pos rfl, e2, e3]
 rfl
theorem par_left : ∀ (es : List Edg) (_ : ∀ e ∈ es, edgE e = 0) (st : Str) (_ : st = wPan ∨ st = wLeft) (l : List Pan) (q : Pan) (t : Str) (k : Nat),
  ∃ st' n, (st' = wPan ∨ st' = wLeft) ∧ parP (linesL (linesS leftW es ++ t)) l (some q) st k = parP (linesL t) l (some (q.1, q.2.1, q.2.2.1 ++ es, q.2.2.2)) st' n
 | [], _, st, hst, l, q, t, k => ⟨st, k, hst, by simp [linesS]⟩
 | e :: es, h, st, hst, l, q, t, k => by
  have e0 : linesS leftW (e :: es) ++ t = lineS wLeft e ++ (linesS leftW es ++ t) := by
   unfold linesS
   rw [List.flatMap_cons, List.append_assoc]
   rfl
  rw [e0, par_edge (h e (List.mem_cons_self ..)) (.inl rfl) (by rw [fol_left]; rcases hst with rfl | rfl <;> decide), if_pos rfl]
  obtain ⟨st', n, h1, h2⟩ := par_left es (fun x hx => h x (List.mem_cons_of_mem _ hx)) wLeft (.inr rfl) l (q.1, q.2.1, q.2.2.1 ++ [e], q.2.2.2) t (k + 1)
  refine ⟨st', n, h1, ?_⟩
  rw [h2]
  simp
theorem par_right : ∀ (es : List Edg) (_ : ∀ e ∈ es, edgE e = 0) (st : Str) (_ : st = wPan ∨ st = wLeft ∨ st = wRight) (l : List Pan) (q : Pan) (t : Str) (k : Nat),
  ∃ st' n, (st' = wPan ∨ st' = wLeft ∨ st' = wRight) ∧ parP (linesL (linesS rightW es ++ t)) l (some q) st k = parP (linesL t) l (some (q.1, q.2.1, q.2.2.1, q.2.2.2 ++ es)) st' n
 | [], _, st, hst, l, q, t, k => ⟨st, k, hst, by simp [linesS]⟩
 | e :: es, h, st, hst, l, q, t, k => by
  have e0 : linesS rightW (e :: es) ++ t = lineS wRight e ++ (linesS rightW es ++ t) := by
   unfold linesS
   rw [List.flatMap_cons, List.append_assoc]
   rfl
  rw [e0, par_edge (h e (List.mem_cons_self ..)) (.inr rfl) (fol_in hst).1, if_neg (by decide)]
  obtain ⟨st', n, h1, h2⟩ := par_right es (fun x hx => h x (List.mem_cons_of_mem _ hx)) wRight (.inr (.inr rfl)) l (q.1, q.2.1, q.2.2.1, q.2.2.2 ++ [e]) t (k + 1)
  refine ⟨st', n, h1, ?_⟩
  rw [h2]
  simp
theorem par_body {p : Pan} (h : PanOk p) {st : Str} (hst : st = [] ∨ st = wEnd) {l : List Pan} (hl : l.length ≠ 16) (t : Str) (k : Nat) :
  ∃ st' n, (st' = wPan ∨ st' = wLeft ∨ st' = wRight) ∧ parP (linesL (headS p ++ linesS leftW p.2.2.1 ++ linesS rightW p.2.2.2 ++ t)) l none st k = parP (linesL t) l (some p) st' n := by
 rw [List.append_assoc, List.append_assoc, par_head h hst hl]
 obtain ⟨s1, n1, h1, e1⟩ := par_left p.2.2.1 h.left.ok wPan (.inl rfl) l (p.1, p.2.1, [], []) (linesS rightW p.2.2.2 ++ t) (k + 1)
 obtain ⟨s2, n2, h2, e2⟩ := par_right p.2.2.2 h.right.ok s1 (by rcases h1 with h1 | h1; exact .inl h1; exact .inr (.inl h1)) l (p.1, p.2.1, [] ++ p.2.2.1, []) t n1
 refine ⟨s2, n2, h2, ?_⟩
 rw [e1, e2]
 simp
theorem par_end {p : Pan} (hp : panE p = 0) {st : Str} (hst : st = wPan ∨ st = wLeft ∨ st = wRight) {l : List Pan} (ha : agnB l p.1 = false) (t : Str) (k : Nat) :
  parP (linesL (endW ++ t)) l (some p) st k = parP (linesL t) (l ++ [p]) none wEnd (k + 1) := by
 have e : endW ++ t = wEnd ++ 10 :: t := rfl
 have hs : splS wEnd = [wEnd] := splS_none (by decide)
 rw [e, par_line (by decide), hs]
 have e1 : rdE [wEnd] true l (some p) st = 0 := by
  rw [rdE_open (W := [wEnd]) (fol_in hst).2 (show [wEnd].getD 0 [] ≠ wPan by decide), if_pos (show [wEnd].getD 0 [] = wEnd from rfl)]
  unfold finE
  rw [if_neg (by simp), hp, ha]
  rfl
 rw [e1, if_pos rfl]
 rfl
theorem par_all : ∀ (r l : List Pan) (st : Str) (t : Str) (k : Nat), (st = [] ∨ st = wEnd) → (l ++ r).length ≤ 16 → fromE (l ++ r) l.length r = 0 →
  ∃ st' n, (st' = [] ∨ st' = wEnd) ∧ parP (linesL (prnT r ++ t)) l none st k = parP (linesL t) (l ++ r) none st' n
 | [], l, st, t, k, hst, _, _ => ⟨st, k, hst, by simp [prnT]⟩
 | p :: r, l, st, t, k, hst, hl, hf => by
  unfold fromE at hf
  have hz : atE (l ++ p :: r) l.length p = 0 := by
   split at hf
   ·assumption
   ·rename_i q; exact absurd hf q
  rw [if_pos hz] at hf
  have hz2 := firstI_zero (show firstI [panE p, whenI (agnB ((l ++ p :: r).take l.length) p.1) 9] = 0 from hz)
  obtain ⟨z1, z2⟩ := hz2
  have ha : agnB l p.1 = false := by
   rw [List.take_left] at z2
   cases hq : agnB l p.1
   ·rfl
   ·rw [hq] at z2; exact absurd z2 (by decide)
  have hlen : l.length ≠ 16 := by rw [List.length_append, List.length_cons] at hl; omega
  have e0 : prnT (p :: r) ++ t = headS p ++ linesS leftW p.2.2.1 ++ linesS rightW p.2.2.2 ++ (endW ++ (prnT r ++ t)) := by
   unfold prnT
   rw [List.flatMap_cons]
   unfold panS
   simp only [List.append_assoc]
  obtain ⟨s1, n1, h1, e1⟩ := par_body (panE_zero z1) hst hlen (endW ++ (prnT r ++ t)) k
  have eq : l ++ p :: r = (l ++ [p]) ++ r := by simp
  obtain ⟨s2, n2, h2, e2⟩ := par_all r (l ++ [p]) wEnd t (n1 + 1) (.inr rfl) (by rw [← eq]; exact hl) (by rw [← eq, List.length_append]; exact hf)
  refine ⟨s2, n2, h2, ?_⟩
  rw [e0, e1, par_end z1 h1 ha, e2, ← eq]
theorem prn_par {l : List Pan} (h : allE l = 0) (hn : (prnT l).length ≤ 16384) : parR (prnT l) = (l, 0, 0) := by
 unfold allE at h
 split at h
 ·exact absurd h (by decide)
 ·rename_i h16
  obtain ⟨st, n, h1, e1⟩ := par_all l [] [] [] 0 (.inl rfl) (by simp; omega) h
  rw [List.append_nil, List.nil_append] at e1
  unfold parR
  rw [if_neg (by omega), e1]
  show (if st ≠ [] ∧ st ≠ wEnd then ([], (n : Int), 28) else (l, 0, 0)) = _
  rw [if_neg]
  rintro ⟨q1, q2⟩
  rcases h1 with h | h
  ·exact q1 h
  ·exact q2 h
theorem prn_torn {l : List Pan} (h : allE l = 0) (hn : (prnT l).length ≤ 16384) (hne : l ≠ []) : ∃ k : Int, parR ((prnT l).take ((prnT l).length - 1)) = ([], k, 25) := by
 unfold allE at h
 split at h
 ·exact absurd h (by decide)
 ·rename_i h16
  obtain ⟨r, p, rfl⟩ : ∃ r p, l = r ++ [p] := ⟨l.dropLast, l.getLast hne, (List.dropLast_concat_getLast hne).symm⟩
  have e0 : prnT (r ++ [p]) = (prnT r ++ (headS p ++ linesS leftW p.2.2.1 ++ linesS rightW p.2.2.2 ++ wEnd)) ++ [10] := by
   unfold prnT
   rw [List.flatMap_append]
   simp [panS, endW, wEnd]
  have e1 : (prnT (r ++ [p])).take ((prnT (r ++ [p])).length - 1) = prnT r ++ (headS p ++ linesS leftW p.2.2.1 ++ linesS rightW p.2.2.2 ++ wEnd) := by
   rw [e0]
   exact take_pred _ _
  have hlen : (prnT r ++ (headS p ++ linesS leftW p.2.2.1 ++ linesS rightW p.2.2.2 ++ wEnd)).length ≤ 16384 := by
   rw [e0, List.length_append] at hn
   omega
  have hr : fromE (r ++ [p]) 0 r = 0 ∧ atE (r ++ [p]) r.length p = 0 := by
   have hgo : ∀ (a b : List Pan) (L : List Pan) (k : Nat), fromE L k (a ++ b) = 0 → fromE L k a = 0 ∧ fromE L (k + a.length) b = 0 := by
    intro a
    induction a with
    | nil => intro b L k h; exact ⟨rfl, by simpa using h⟩
    | cons x a ih =>
     intro b L k h
     rw [List.cons_append] at h
     unfold fromE at h
     show (if atE L k x = 0 then fromE L (k + 1) a else atE L k x) = 0 ∧ fromE L (k + (x :: a).length) b = 0
     split at h
     ·rename_i hx
      obtain ⟨i1, i2⟩ := ih b L (k + 1) h
      rw [if_pos hx]
      exact ⟨i1, by rw [List.length_cons, show k + (a.length + 1) = k + 1 + a.length by omega]; exact i2⟩
     ·rename_i hx; exact absurd h hx
   obtain ⟨i1, i2⟩ := hgo r [p] (r ++ [p]) 0 h
   refine ⟨i1, ?_⟩
   rw [Nat.zero_add] at i2
   unfold fromE at i2
   split at i2
   ·assumption
   ·rename_i q; exact absurd i2 q
  have hfr : fromE r 0 r = 0 := by
   have hgo : ∀ (b a : List Pan), a ++ b = r → fromE (r ++ [p]) a.length b = 0 → fromE r a.length b = 0 := by
    intro b
    induction b with
    | nil => intro a _ _; rfl
    | cons x b ih =>
     intro a ha hf
     unfold fromE at hf ⊢
     have et : atE (r ++ [p]) a.length x = atE r a.length x := by
      unfold atE
      rw [List.take_append_of_le_length (by rw [← ha, List.length_append]; omega)]
     rw [et] at hf
     split at hf
     ·rename_i hx
      rw [if_pos hx]
      have := ih (a ++ [x]) (by rw [← ha]; simp) (by rw [List.length_append]; exact hf)
      rw [List.length_append] at this
      exact this
     ·rename_i hx; exact absurd hf hx
   exact hgo r [] rfl hr.1
  have z1 := (firstI_zero (show firstI [panE p, whenI (agnB ((r ++ [p]).take r.length) p.1) 9] = 0 from hr.2)).1
  have hl16 : (r ++ [p]).length ≤ 16 := by omega
  obtain ⟨s1, n1, h1, f1⟩ := par_all r [] [] (headS p ++ linesS leftW p.2.2.1 ++ linesS rightW p.2.2.2 ++ wEnd) 0 (.inl rfl) (by rw [List.nil_append]; rw [List.length_append] at hl16; omega) hfr
  rw [List.nil_append] at f1
  obtain ⟨s2, n2, h2, f2⟩ := par_body (panE_zero z1) (l := r) h1 (by rw [List.length_append] at hl16; simp at hl16; omega) wEnd n1
  refine ⟨(n2 : Int), ?_⟩
  rw [e1]
  unfold parR
  rw [if_neg (by omega), f1, f2, lines_one (by decide) (by decide), parP]
  have h25 : readE wEnd r (some p) s2 = 25 := by
   unfold readE rdE
   rw [if_pos (.inl (by decide))]
  rw [h25, if_neg (by decide)]
theorem dec_true {s : Str} (h : (decR s).2 = true) : Lib.itoa (decR s).1 = s := by
 unfold decR at h ⊢
 split at h
 ·simp only [Bool.and_eq_true, decide_eq_true_eq] at h
  exact h.2
 ·cases h
 ·cases h
theorem fromE_app (L : List Pan) : ∀ (a b : List Pan) (k : Nat), fromE L k (a ++ b) = 0 ↔ fromE L k a = 0 ∧ fromE L (k + a.length) b = 0
 | [], b, k => by
  show fromE L k b = 0 ↔ (0 : Int) = 0 ∧ fromE L (k + 0) b = 0
  rw [Nat.add_zero]
  exact ⟨fun h => ⟨rfl, h⟩, fun h => h.2⟩
 | x :: a, b, k => by
  have e1 : fromE L k (x :: a ++ b) = if atE L k x = 0 then fromE L (k + 1) (a ++ b) else atE L k x := rfl
  have e2 : fromE L k (x :: a) = if atE L k x = 0 then fromE L (k + 1) a else atE L k x := rfl
  rw [e1, e2, List.length_cons, show k + (a.length + 1) = k + 1 + a.length by omega]
  by_cases hx : atE L k x = 0
  ·rw [if_pos hx, if_pos hx]
   exact fromE_app L a b (k + 1)
  ·rw [if_neg hx, if_neg hx]
   exact ⟨fun h => absurd h hx, fun h => absurd h.1 hx⟩
theorem fromE_more (r : List Pan) (p : Pan) : ∀ (b a : List Pan), a ++ b = r → fromE (r ++ [p]) a.length b = fromE r a.length b
 | [], _, _ => rfl
 | x :: b, a, ha => by
  have e1 : fromE (r ++ [p]) a.length (x :: b) = if atE (r ++ [p]) a.length x = 0 then fromE (r ++ [p]) (a.length + 1) b else atE (r ++ [p]) a.length x := rfl
  have e2 : fromE r a.length (x :: b) = if atE r a.length x = 0 then fromE r (a.length + 1) b else atE r a.length x := rfl
  have et : atE (r ++ [p]) a.length x = atE r a.length x := by
   unfold atE
   rw [List.take_append_of_le_length (by rw [← ha, List.length_append]; omega)]
  have ih := fromE_more r p b (a ++ [x]) (by rw [← ha]; simp)
  rw [List.length_append] at ih
  have ih : fromE (r ++ [p]) (a.length + 1) b = fromE r (a.length + 1) b := ih
  rw [e1, e2, et, ih]
theorem allE_snoc {l : List Pan} {p : Pan} (h : allE l = 0) (hl : l.length < 16) (hp : panE p = 0) (ha : agnB l p.1 = false) : allE (l ++ [p]) = 0 := by
 unfold allE at h ⊢
 rw [if_neg (by omega)] at h
 rw [if_neg (by rw [List.length_append]; simp; omega)]
 refine (fromE_app _ l [p] 0).2 ⟨?_, ?_⟩
 ·have := fromE_more l p l [] rfl
  exact this.trans h
 ·rw [Nat.zero_add]
  show (if atE (l ++ [p]) l.length p = 0 then 0 else atE (l ++ [p]) l.length p) = 0
  have e : atE (l ++ [p]) l.length p = 0 := by
   unfold atE
   rw [List.take_left, hp, ha]
   rfl
  rw [if_pos e]
def opnS : Option Pan → Str
 | none => []
 | some p => headS p ++ linesS leftW p.2.2.1 ++ linesS rightW p.2.2.2
structure PInv (l : List Pan) (o : Option Pan) (st : Str) : Prop where
 st : (o = none ∧ (st = [] ∨ st = wEnd)) ∨ ∃ p, o = some p ∧ ((st = wPan ∨ st = wLeft) ∧ p.2.2.2 = [] ∨ st = wRight)
 ok : allE l = 0
 few : o ≠ none → l.length < 16
theorem fol_mem {a st : Str} (h : st ∈ folL a) (h1 : a ≠ wPan) (h2 : a ≠ wEnd) : a = wLeft ∧ (st = wPan ∨ st = wLeft) ∨ a = wRight := by
  unfold folL at h
  rw [if_neg h1] at h
  split at h
  · rename_i q
    refine .inl ⟨q, by simpa using h⟩
  · split at h
    · rename_i q; exact .inr q
    · first
        | (simp at h; done)
        | (rw [if_neg h2] at h; simp at h; done)
theorem linesS_app (sd : Str) (a b : List Edg) : linesS sd (a ++ b) = linesS sd a ++ linesS sd b := by unfold linesS; simp
theorem linesS_one (sd : Str) (e : Edg) : linesS sd [e] = lineS sd e := by unfold linesS; simp
theorem prnT_app (a : List Pan) (p : Pan) : prnT (a ++ [p]) = prnT a ++ panS p := by unfold prnT; simp
theorem edge_text {W : List Str} (h : edgeE W = 0) : lineS (W.getD 0 []) (edgW W) = joinS W ++ [10] := by
 unfold edgeE at h
 split at h
 ·exact absurd h (by decide)
 ·rename_i hb
  have h1 : W.length = 4 := Classical.byContradiction fun q => hb (.inl q)
  have h4 : (decR (W.getD 2 [])).2 = true := by
   cases hc : (decR (W.getD 2 [])).2
   ·exact absurd (.inr (.inr (.inr hc))) hb
   ·rfl
  have h3 : W.getD 3 [] = wOut ∨ W.getD 3 [] = wIn := by
   by_cases q : W.getD 3 [] = wOut
   ·exact .inl q
   ·exact .inr (Classical.byContradiction fun q' => hb (.inr (.inr (.inl ⟨q, q'⟩))))
  match W, h1 with
  | [a, b, c, d], _ =>
   have h4 : (decR c).2 = true := h4
   have h3 : d = wOut ∨ d = wIn := h3
   have e1 := dec_true h4
   have e2 : wayS (d == wOut) = d := by
    rcases h3 with rfl | rfl <;> rfl
   show a ++ [32] ++ b ++ [32] ++ Lib.itoa (decR c).1 ++ [32] ++ wayS (d == wOut) ++ [10] = _
   rw [e1, e2]
   simp [joinS]
theorem beg_text {W : List Str} {l : List Pan} (hd : W.getD 0 [] = wPan) (h : begE W l = 0) : headS (begP W) = joinS W ++ [10] ∧ l.length ≠ 16 := by
 unfold begE at h
 split at h
 ·exact absurd h (by decide)
 ·rename_i hb
  have h1 : W.length = 3 := Classical.byContradiction fun q => hb (.inl q)
  obtain ⟨q1, q2⟩ := firstI_zero h
  have h4 : (decR (W.getD 2 [])).2 = true := by
   cases hc : (decR (W.getD 2 [])).2
   ·rw [hc] at q1; exact absurd q1 (by decide)
   ·rfl
  refine ⟨?_, fun q => by rw [decide_eq_true q] at q2; exact absurd q2 (by decide)⟩
  match W, h1 with
  | [a, b, c], _ =>
   have h4 : (decR c).2 = true := h4
   have hd : a = wPan := hd
   subst hd
   have e1 : Lib.itoa (decR c).1 = c := dec_true h4
   show [112, 97, 110, 101, 108, 32] ++ b ++ [32] ++ Lib.itoa (decR c).1 ++ [10] = _
   rw [e1]
   simp [joinS, wPan]
theorem rd_inv {a : Str} {l : List Pan} {o : Option Pan} {st : Str} (hi : PInv l o st) (h : rdE (splS a) true l o st = 0) :
    PInv (rdN (splS a) l o).1 (rdN (splS a) l o).2 ((splS a).getD 0 []) ∧ prnT (rdN (splS a) l o).1 ++ opnS (rdN (splS a) l o).2 = prnT l ++ opnS o ++ (a ++ [10]) := by
  have hj := join_splS a
  obtain ⟨W, hW⟩ : ∃ W, splS a = W := ⟨_, rfl⟩
  rw [hW] at h hj ⊢
  obtain ⟨n1, n2, n3, n4, n5, n6, n7, n8, n9, n10⟩ := ne_pl
  have hf : st ∈ folL (W.getD 0 []) := by
    refine Classical.byContradiction fun q => ?_
    unfold rdE at h
    rw [if_pos (.inr q)] at h
    exact absurd h (by decide)
  by_cases hp : W.getD 0 [] = wPan
  · have ho : o = none := by
      rcases hi.st with ⟨q, _⟩ | ⟨p, q, q2⟩
      · exact q
      · rw [hp, fol_pan] at hf
        rcases q2 with ⟨rfl | rfl, _⟩ | rfl
        · exact absurd hf (by decide)
        · exact absurd hf (by decide)
        · exact absurd hf (by decide)
    subst ho
    have e1 : rdE W true l none st = begE W l := by
      unfold rdE
      rw [if_neg (by rintro (q | q); cases q; exact q hf), if_pos hp]
    have e2 : rdN W l none = (l, some (begP W)) := by
      unfold rdN
      rw [if_pos hp]
    rw [e1] at h
    obtain ⟨t1, t2⟩ := beg_text hp h
    rw [e2, hp]
    have h16 : l.length ≤ 16 := by
      have := hi.ok
      unfold allE at this
      split at this
      · exact absurd this (by decide)
      · omega
    refine ⟨⟨.inr ⟨_, rfl, .inl ⟨.inl rfl, rfl⟩⟩, hi.ok, fun _ => by show l.length < 16; omega⟩, ?_⟩
    show prnT l ++ (headS (begP W) ++ [] ++ []) = prnT l ++ [] ++ (a ++ [10])
    rw [t1, hj]
    simp
  · rcases hi.st with ⟨rfl, _⟩ | ⟨p, rfl, q2⟩
    · unfold rdE at h
      rw [if_neg (by rintro (q | q); cases q; exact q hf), if_neg hp] at h
      exact absurd h (show (25 : Int) ≠ 0 by decide)
    · rw [rdE_open hf hp] at h
      rw [rdN_open hp]
      have hfew := hi.few (by simp)
      by_cases he : W.getD 0 [] = wEnd
      · rw [if_pos he] at h ⊢
        unfold finE at h
        split at h
        · exact absurd h (by decide)
        · rename_i h1
          have h1 : W.length = 1 := Classical.byContradiction h1
          obtain ⟨z1, z2⟩ := firstI_zero h
          have ha : agnB l p.1 = false := by
            cases hq : agnB l p.1
            · rfl
            · rw [hq] at z2; exact absurd z2 (by decide)
          have hw : W = [wEnd] := by
            obtain ⟨w, rfl⟩ := List.length_eq_one_iff.1 h1
            have he : w = wEnd := he
            rw [he]
          rw [hw] at hj
          have hj : wEnd = a := hj
          refine ⟨⟨.inl ⟨rfl, .inr he⟩, allE_snoc hi.ok hfew z1 ha, fun q => absurd rfl q⟩, ?_⟩
          show prnT (l ++ [p]) ++ [] = prnT l ++ (headS p ++ linesS leftW p.2.2.1 ++ linesS rightW p.2.2.2) ++ (a ++ [10])
          rw [prnT_app, ← hj, List.append_nil, List.append_assoc]
          congr 1
      · rw [if_neg he] at h ⊢
        have ht := edge_text h
        rw [hj] at ht
        rcases fol_mem hf hp he with ⟨q, qs⟩ | q
        · have hr : p.2.2.2 = [] := by
            rcases q2 with ⟨_, q3⟩ | rfl
            · exact q3
            · rcases qs with qs | qs
              · exact absurd qs (by decide)
              · exact absurd qs n4.symm
          have ep : edgeP W p = (p.1, p.2.1, p.2.2.1 ++ [edgW W], p.2.2.2) := by
            unfold edgeP
            rw [if_pos q]
          rw [q] at ht
          refine ⟨⟨.inr ⟨_, rfl, .inl ⟨.inr q, by rw [ep]; exact hr⟩⟩, hi.ok, fun _ => hfew⟩, ?_⟩
          show prnT l ++ (headS (edgeP W p) ++ linesS leftW (edgeP W p).2.2.1 ++ linesS rightW (edgeP W p).2.2.2) = prnT l ++ (headS p ++ linesS leftW p.2.2.1 ++ linesS rightW p.2.2.2) ++ (a ++ [10])
          rw [ep, ← ht]
          show prnT l ++ (headS p ++ linesS leftW (p.2.2.1 ++ [edgW W]) ++ linesS rightW p.2.2.2) = _
          rw [hr, linesS_app, linesS_one]
          show _ = prnT l ++ (headS p ++ linesS leftW p.2.2.1 ++ linesS rightW []) ++ lineS leftW (edgW W)
          simp [linesS]
        · have ep : edgeP W p = (p.1, p.2.1, p.2.2.1, p.2.2.2 ++ [edgW W]) := by
            unfold edgeP
            rw [if_neg (by rw [q]; exact n4.symm)]
          rw [q] at ht
          refine ⟨⟨.inr ⟨_, rfl, .inr q⟩, hi.ok, fun _ => hfew⟩, ?_⟩
          show prnT l ++ (headS (edgeP W p) ++ linesS leftW (edgeP W p).2.2.1 ++ linesS rightW (edgeP W p).2.2.2) = prnT l ++ (headS p ++ linesS leftW p.2.2.1 ++ linesS rightW p.2.2.2) ++ (a ++ [10])
          rw [ep, ← ht]
          show prnT l ++ (headS p ++ linesS leftW p.2.2.1 ++ linesS rightW (p.2.2.2 ++ [edgW W])) = _
          rw [linesS_app, linesS_one]
          show _ = prnT l ++ (headS p ++ linesS leftW p.2.2.1 ++ linesS rightW p.2.2.2) ++ lineS rightW (edgW W)
          simp
theorem par_back : ∀ (n : Nat) (s : Str) (l : List Pan) (o : Option Pan) (st : Str) (k : Nat) (x : List Pan), s.length ≤ n → PInv l o st → parP (linesL s) l o st k = (x, 0, 0) → allE x = 0 ∧ prnT x = prnT l ++ opnS o ++ s
 | n, s, l, o, st, k, x, hn, hi, h => by
  by_cases hm : 10 ∈ s
  ·obtain ⟨a, b, rfl, ha⟩ := List.eq_append_cons_of_mem hm
   rw [par_line ha] at h
   split at h
   ·rename_i h0
    obtain ⟨i1, i2⟩ := rd_inv hi h0
    cases n with
    | zero => simp at hn
    | succ n =>
     obtain ⟨r1, r2⟩ := par_back n b _ _ _ _ x (by simp at hn; omega) i1 h
     refine ⟨r1, ?_⟩
     rw [r2, i2]
     simp
   ·rename_i h0
    simp only [Prod.mk.injEq] at h
    exact absurd h.2.2 h0
  ·by_cases hs : s = []
   ·subst hs
    have h : (if st ≠ [] ∧ st ≠ wEnd then ([], (k : Int), 28) else (l, 0, 0)) = ((x, 0, 0) : List Pan × Int × Int) := h
    split at h
    ·simp at h
    ·rename_i h0
     simp only [Prod.mk.injEq, and_true] at h
     subst h
     refine ⟨hi.ok, ?_⟩
     rcases hi.st with ⟨rfl, _⟩ | ⟨p, rfl, q2⟩
     ·simp [opnS]
     ·exfalso
      apply h0
      rcases q2 with ⟨rfl | rfl, _⟩ | rfl <;> decide
   ·rw [lines_one hm hs, parP] at h
    have h25 : readE s l o st = 25 := by
     unfold readE rdE
     rw [if_pos]
     left
     cases hq : Lib.hasSuffix s [10] with
     | false => rfl
     | true =>
      obtain ⟨t, rfl⟩ := suf_iff.1 hq
      exact absurd (by simp) hm
    rw [h25, if_neg (by decide)] at h
    simp at h
theorem par_prn {s : Str} {x : List Pan} (h : parR s = (x, 0, 0)) : allE x = 0 ∧ prnT x = s := by
 unfold parR at h
 split at h
 ·simp at h
 ·obtain ⟨h1, h2⟩ := par_back s.length s [] none [] 0 x (Nat.le_refl _) ⟨.inl ⟨rfl, .inl rfl⟩, rfl, fun q => absurd rfl q⟩ h
  exact ⟨h1, by rw [h2]; simp [prnT, opnS]⟩
end Go.Proofs.YtkkefahobjlagaaGreatDoor

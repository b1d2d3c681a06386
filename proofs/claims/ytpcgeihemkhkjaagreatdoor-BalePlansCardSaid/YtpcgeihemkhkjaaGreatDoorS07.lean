/- Panels, plain: reach, strips, nets, errors. Conditions: none. -/
import Derived.Test.YtpcgeihemkhkjaaGreatDoorS02
import Derived.Test.YtpcgeihemkhkjaaGreatDoorS06
import Derived.Test.YtpcgeihemkhkjaaGreatDoorS01
import Derived.RangeFuncNested
import Derived.RangeFuncBound
import Derived.RangeFuncCalls
import Derived.RangeFuncLeaves
import Derived.RangeFuncBox
import Derived.OwnWalkIn
import Derived.TacticsInMore
import Derived.LoopNIn
import Derived.LoopIn
namespace Go.Proofs.YtpcgeihemkhkjaaGreatDoor
open Go.RowKit Go.ChangeMaps
set_option maxHeartbeats 4000000
set_option maxRecDepth 100000
def hitR (row y : Int) (k : Knot) : Bool := decide (k.2 = row ∨ y < row ∧ row < k.2)
def Z6o (a : Int × Int) (x : Int) : Int × Int := (min a.1 x, max a.2 x)
def Z6p (row : Int) : Int → List Knot → Int × Int → Int × Int
 | _, [], a => a
 | y, k :: r, a => Z6p row k.2 r (if hitR row y k then Z6o a k.1 else a)
def Z6q : Int × Int := (999999999, -999999999)
def rchI (l : List Knot) (row : Int) : Int × Int := match l with
 | [] => Z6q
 | k :: r => Z6p row k.2 (k :: r) Z6q
def Z6r : Int → List Knot → Int
 | y, [] => y
 | _, k :: r => Z6r k.2 r
theorem Z6s : ∀ (l : List Knot) (y : Int) (k : Knot), Z6r y (l ++ [k]) = k.2
 | [], _, _ => rfl
 | x :: r, _, k => Z6s r x.2 k
theorem Z6t (row : Int) : ∀ (a b : List Knot) (y : Int) (s : Int × Int), Z6p row y (a ++ b) s = Z6p row (Z6r y a) b (Z6p row y a s)
 | [], b, y, s => rfl
 | k :: r, b, y, s => by
  rw [List.cons_append, Z6p, Z6p, Z6t row r b]; rfl
theorem Z6u (l : List Knot) (p k : Knot) (row : Int) : rchI (l ++ [p, k]) row = if hitR row p.2 k then Z6o (rchI (l ++ [p]) row) k.1 else rchI (l ++ [p]) row := by
 cases l with
 | nil => simp only [List.nil_append, rchI, Z6p]
 | cons q r =>
  have e : (q :: r) ++ [p, k] = ((q :: r) ++ [p]) ++ [k] := by simp
  show Z6p row q.2 ((q :: r) ++ [p, k]) Z6q = _
  rw [e, Z6t]; rw [Z6s]; rfl
theorem Z6v (row : Int) : ∀ (l : List Knot) (y : Int) (s : Int × Int), (∀ k ∈ l, k.2 < row) → Z6p row y l s = s
 | [], _, _, _ => rfl
 | k :: r, y, s, h => by
  have hk := h k (List.mem_cons_self ..)
  rw [Z6p, show hitR row y k = false by unfold hitR; rw [decide_eq_false]; omega]
  exact Z6v row r _ s fun x hx => h x (List.mem_cons_of_mem _ hx)
theorem Z6w (l : List Knot) (row : Int) (h : ∀ k ∈ l, k.2 < row) : rchI l row = Z6q := by
 cases l with
 | nil => rfl
 | cons k r => exact Z6v row _ _ _ h
def Z6x (y : Int) : Knot → List Knot → Int × Int
 | _, [] => (0, 0)
 | k, n :: r => if k.2 ≤ y ∧ y < n.2 then (if n.2 = k.2 + 1 then (k.1, n.1) else (n.1, n.1)) else Z6x y n r
def plcI (l : List Knot) (y : Int) : Int × Int := match l with
 | [] => (0, 0)
 | k :: r => Z6x y k r
abbrev Strp := Int × Int × Int × Int
def strI (L R : List Knot) (y : Int) : Strp := ((plcI L y).1, (plcI R y).1, (plcI L y).2, (plcI R y).2)
def Z6y (p : Pan) : List Strp := (List.range (Z35 p).toNat).map fun y => strI (outP p false) (outP p true) (y : Nat)
def Z6z (s : Strp) (y x : Int) : List Bar :=
 if (x + y) % 2 ≠ 0 then [] else
  (if s.2.2.1 ≤ x - 1 ∧ x - 1 ≤ s.2.2.2 then [(x, y, -1)] else []) ++ (if s.2.2.1 ≤ x + 1 ∧ x + 1 ≤ s.2.2.2 then [(x, y, 1)] else [])
def Z70 (s : Strp) (y : Int) : Nat → List Bar
 | 0 => []
 | n + 1 => Z70 s y n ++ Z6z s y (s.1 + (n : Int))
def Z71 (s : Strp) (y : Int) : List Bar := Z70 s y (s.2.1 - s.1 + 1).toNat
def netN (l : List Strp) : Nat → List Bar
 | 0 => []
 | n + 1 => netN l n ++ Z71 (l.getD n (0, 0, 0, 0)) n
def netL (p : Pan) : List Bar := netN (Z6y p) (Z6y p).length
def Z72 (l : List Strp) : Int := (l.map fun s => s.2.1 - s.1 + (s.2.2.2 - s.2.2.1)).sum
def Z73 (L R : List Knot) (n : Nat) : Bool := (List.range n).any fun y => decide ((rchI R (y : Nat)).1 < (rchI L (y : Nat)).2 + 2)
def Z74 (p : Pan) : Int := Z17 [Z15 (!Z6k p.1) 8, Z16 p.2.1 1 128, Z38 p.2.2.1, Z38 p.2.2.2]
def Z75 (p : Pan) : Int := Z17 [Z15 (decide (Z35 p ≠ Z2w (stpL p.2.2.2))) 2, Z15 (decide (Z35 p = 0)) 12, Z15 (decide (256 < Z35 p)) 4]
def panE (p : Pan) : Int := if Z74 p ≠ 0 then Z74 p else if Z75 p ≠ 0 then Z75 p else Z15 (Z73 (outP p false) (outP p true) ((Z35 p).toNat + 1)) 16
structure Asc (l : List Knot) : Prop where
 ne : 0 < l.length
 first : l[0].2 = 0
 up : ∀ i (h : i + 1 < l.length), l[i].2 ≤ l[i + 1].2
 stepx : ∀ i (h : i + 1 < l.length), l[i].2 < l[i + 1].2 → l[i + 1].2 = l[i].2 + 1 ∨ l[i].1 = l[i + 1].1
 near : ∀ i (h : i < l.length), -100000 ≤ l[i].1 ∧ l[i].1 ≤ 100000 ∧ l[i].2 ≤ 100000
theorem Asc.mono {l : List Knot} (h : Asc l) : ∀ (d i : Nat) (hj : i + d < l.length), l[i].2 ≤ l[i + d].2
 | 0, _, _ => Int.le_refl _
 | d + 1, i, hj => Int.le_trans (h.mono d i (by omega)) (h.up (i + d) hj)
theorem Asc.le {l : List Knot} (h : Asc l) {i j : Nat} (hij : i ≤ j) (hj : j < l.length) : l[i].2 ≤ l[j].2 := by
 obtain ⟨d, rfl⟩ : ∃ d, j = i + d := ⟨j - i, by omega⟩
 exact h.mono d i hj
theorem Asc.nn {l : List Knot} (h : Asc l) {i : Nat} (hi : i < l.length) : 0 ≤ l[i].2 := by
 have := h.le (Nat.zero_le i) hi
 rw [h.first] at this
 exact this
theorem Z76 (right : Bool) (k : Knot) (l : List Stp) {i : Nat} (h : i + 1 < (outK right k l).length) : ∃ s, (outK right k l)[i + 1] = Z2m right (outK right k l)[i] s := by
 have hl : i < l.length := by rw [Z2p] at h; omega
 refine ⟨l[i], ?_⟩
 rw [Z2r, Z2r, List.take_succ_eq_append_getElem hl, Z2o]
theorem Z77 {right : Bool} {k : Knot} {s : Stp} (h : k.2 < (Z2m right k s).2) : (Z2m right k s).2 = k.2 + 1 ∨ k.1 = (Z2m right k s).1 := by
 unfold Z2m aft at h ⊢
 split
 ·exact .inr rfl
 ·rename_i h1
  rw [if_neg h1] at h; split
  ·exact .inl rfl
  ·rename_i h2
   rw [if_neg h2] at h; simp at h
theorem Z78 (right : Bool) (k : Knot) (l : List Stp) (hk : k.2 = 0) (hx : -10000 ≤ k.1 ∧ k.1 ≤ 10000) (hl : l.length ≤ 10000) : Asc (outK right k l) := by
 refine ⟨by rw [Z2p]; omega, ?_, ?_, ?_, ?_⟩
 ·rw [Z2r]
  exact hk
 ·intro i h
  obtain ⟨s, hs⟩ := Z76 right k l h
  rw [hs, Z31]; have := Z2z s.1
  omega
 ·intro i h hlt
  obtain ⟨s, hs⟩ := Z76 right k l h
  rw [hs] at hlt ⊢; exact Z77 hlt
 ·intro i h
  rw [Z2r]; have h1 := Z2u (right := right) (n := 10000) (l.take i) (k := k) ⟨by omega, by omega, by omega, by omega⟩
  have h2 := List.length_take_le' i l
  omega
theorem Z79 (p : Pan) (right : Bool) (hw : -1000 ≤ p.2.1 ∧ p.2.1 ≤ 1000) (hs : (stpL (Z33 p right)).length ≤ 512) : Asc (outP p right) :=
 Z78 _ _ _ (by unfold Z34; cases right <;> rfl) (by unfold Z34; cases right <;> simp <;> omega) (by omega)
def putF (f : Nat → Int × Int) (y : Nat) (x : Int) (fresh : Bool) : Nat → Int × Int := fun z => if z = y then Z6o (if fresh then (x, x) else f y) x else f z
def Z7a (f : Nat → Int × Int) (a y : Nat) (x : Int) : Nat → Int × Int := fun z => if a < z ∧ z < y then (x, x) else f z
theorem Z7b (f : Nat → Int × Int) (a : Nat) (x : Int) : Z7a f a (a + 1) x = f := by
 funext z
 unfold Z7a
 rw [if_neg (by omega)]
theorem Z7c {f : Nat → Int × Int} {a y : Nat} {x : Int} (h : a < y) : putF (Z7a f a y x) y x true = Z7a f a (y + 1) x := by
 funext z
 unfold putF Z7a Z6o
 by_cases h1 : z = y
 ·rw [h1, if_pos rfl, if_pos (show a < y ∧ y < y + 1 by omega), if_pos rfl]
  simp
 ·rw [if_neg h1]
  by_cases h2 : a < z ∧ z < y
  ·rw [if_pos h2, if_pos (by omega)]
  ·rw [if_neg h2, if_neg (by omega)]
theorem Z7d {l : List Knot} {i : Nat} (hi : i + 1 < l.length) : l.take (i + 2) = l.take i ++ [l[i], l[i + 1]] := by
 rw [show i + 2 = i + 1 + 1 from rfl, List.take_succ_eq_append_getElem hi, List.take_succ_eq_append_getElem (show i < l.length by omega), List.append_assoc]
 rfl
theorem Z7e {x : Int} (h : -100000 ≤ x ∧ x ≤ 100000) : Z6o Z6q x = (x, x) := by
 unfold Z6o Z6q
 simp only [Prod.mk.injEq]
 omega
theorem Z7f (x : Int) : Z6o (x, x) x = (x, x) := by unfold Z6o; simp
def Z7g (l : List Knot) (i : Nat) (f : Nat → Int × Int) : Prop := ∀ (h : i < l.length) (z : Nat), (z : Int) ≤ l[i].2 → f z = rchI (l.take (i + 1)) z
theorem Z7h {l : List Knot} (h : Asc l) (f : Nat → Int × Int) {x y : Int} (hx : l[0]? = some (x, y)) : Z7g l 0 (putF f 0 x true) := by
 intro h0 z hz
 rw [h.first] at hz
 obtain rfl : z = 0 := by omega
 have e : l[0] = (x, y) := by rw [List.getElem?_eq_getElem h0] at hx; exact Option.some.inj hx
 have hn := h.near 0 h0
 have hy : y = 0 := by have := h.first; rw [e] at this; exact this
 rw [e] at hn
 rw [List.take_succ_eq_append_getElem h0, e]
 subst hy
 show Z6o (x, x) x = _
 rw [Z7f]
 show _ = Z6o Z6q x
 rw [Z7e ⟨by simpa using hn.1, by simpa using hn.2.1⟩]
theorem Z7i {l : List Knot} (h : Asc l) {i : Nat} {a b : Nat} {x0 x : Int} (h0 : l[i]? = some (x0, (a : Int))) (h1 : l[i + 1]? = some (x, (b : Int))) {f : Nat → Int × Int} (hf : Z7g l i f) :
    Z7g l (i + 1) (putF (Z7a f a (b + 1) x) b x false) := by
  intro hi z hz; have e0 : l[i] = (x0, (a : Int)) := by rw [List.getElem?_eq_getElem (by omega)] at h0; exact Option.some.inj h0
  have e1 : l[i + 1] = (x, (b : Int)) := by rw [List.getElem?_eq_getElem hi] at h1; exact Option.some.inj h1
  have hup := h.up i hi
  have hn := (h.near (i + 1) hi)
  have hf' := hf (by omega)
  rw [e1] at hz hup hn; rw [e0] at hup hf'; simp only at hz hup hn hf'
  rw [Z7d hi, Z6u, e1, e0]; have ht : l.take i ++ [(x0, (a : Int))] = l.take (i + 1) := by rw [List.take_succ_eq_append_getElem (by omega), e0]
  rw [ht]; simp only
  unfold putF; by_cases ha : z ≤ a
  · by_cases hb : z = b
    · subst hb
      rw [if_pos rfl, if_neg (by simp)]
      have : hitR (z : Int) (a : Int) (x, (z : Int)) = true := by unfold hitR; simp
      rw [this, if_pos rfl, ← hf' z (by omega)]
      unfold Z7a; rw [if_neg (by omega)]
    · rw [if_neg hb]
      have : hitR (z : Int) (a : Int) (x, (b : Int)) = false := by unfold hitR; rw [decide_eq_false]; simp only; omega
      rw [this, if_neg (by simp), ← hf' z (by omega)]
      unfold Z7a; rw [if_neg (by omega)]
  · have : hitR (z : Int) (a : Int) (x, (b : Int)) = true := by
      unfold hitR; rw [decide_eq_true]; simp only
      omega
    rw [this, if_pos rfl]
    have hnone : rchI (l.take (i + 1)) z = Z6q := by
      refine Z6w _ _ fun k hk => ?_
      obtain ⟨j, hj, rfl⟩ := List.getElem_of_mem hk
      rw [List.getElem_take]; have hj2 : j ≤ i := by rw [List.length_take] at hj; omega
      have := h.le hj2 (show i < l.length by omega)
      rw [e0] at this; simp only at this
      omega
    rw [hnone, Z7e ⟨hn.1, hn.2.1⟩]
    have e : Z7a f a (b + 1) x z = (x, x) := by unfold Z7a; rw [if_pos (by omega)]
    split
    · rename_i hz'
      rw [if_neg (by simp)]
      subst hz'; rw [e, Z7f]
    · exact e
theorem Z7j {l : List Knot} {f : Nat → Int × Int} {i n : Nat} (hi : i + 1 = l.length) (hf : Z7g l i f) {tx : Int} (hn : l[i]? = some (tx, (n : Int))) : (List.range (n + 1)).map f = (List.range (n + 1)).map fun y => rchI l (y : Nat) := by
 refine List.map_congr_left fun z hz => ?_
 rw [List.getElem?_eq_getElem (by omega)] at hn
 rw [hf (by omega) z (by rw [Option.some.inj hn]; have := List.mem_range.1 hz; simp only; omega), hi, List.take_length]
def setT (side : Nat) (s : Strp) (a b : Int) : Strp := if side = 0 then (a, s.2.1, b, s.2.2.2) else (s.1, a, s.2.2.1, b)
def putT (f : Nat → Strp) (y side : Nat) (a b : Int) : Nat → Strp := fun z => if z = y then setT side (f y) a b else f z
def layF (f : Nat → Strp) (l : List Knot) (side c : Nat) : Nat → Strp := fun z => if z < c then setT side (f z) (plcI l z).1 (plcI l z).2 else f z
theorem Z7k (f : Nat → Strp) (l : List Knot) (side : Nat) : layF f l side 0 = f := by
 funext z
 unfold layF
 rw [if_neg (by omega)]
theorem Z7l : ∀ (l : List Knot) (i : Nat) (y : Int) (_ : ∀ j (h : j + 1 < l.length), l[j].2 ≤ l[j + 1].2) (_ : ∀ j (h : j + 1 < l.length), l[j].2 < l[j + 1].2 → l[j + 1].2 = l[j].2 + 1 ∨ l[j].1 = l[j + 1].1)
  (h : i + 1 < l.length) (_ : l[i].2 ≤ y ∧ y < l[i + 1].2), plcI l y = (l[i].1, l[i + 1].1)
 | [], _, _, _, _, h, _ => by simp at h
 | [_], _, _, _, _, h, _ => by simp at h
 | k :: n :: r, 0, y, hu, hs, h, hy => by
  simp only [List.getElem_cons_zero, List.getElem_cons_succ] at hy; have := hs 0 h (by simp only [List.getElem_cons_zero, List.getElem_cons_succ]; omega)
  simp only [List.getElem_cons_zero, List.getElem_cons_succ] at this; show Z6x y k (n :: r) = _
  unfold Z6x; rw [if_pos hy]; simp only [List.getElem_cons_zero, List.getElem_cons_succ]; split
  ·rfl
  ·rename_i hne
   rcases this with h1 | h1
   ·exact absurd h1 hne
   ·rw [h1]
 | k :: n :: r, i + 1, y, hu, hs, h, hy => by
  have ih := Z7l (n :: r) i y (fun j hj => hu (j + 1) (by simpa using hj)) (fun j hj => hs (j + 1) (by simpa using hj)) (by simpa using h) (by simpa using hy)
  have hmono : ∀ d (hd : d < (n :: r).length), n.2 ≤ (n :: r)[d].2 := by
   intro d; induction d with
   | zero => intro _; exact Int.le_refl _
   | succ d ih =>
    intro hd; refine Int.le_trans (ih (by omega)) ?_
    have := hu (d + 1) (by simpa using hd)
    simpa using this
  have h1 := hmono i (by simp at h ⊢; omega)
  have hy1 : ((n :: r)[i]'(by simp at h ⊢; omega)).2 ≤ y := by simpa using hy.1
  show Z6x y k (n :: r) = _
  unfold Z6x; rw [if_neg (by omega)]
  simpa [plcI] using ih
theorem Z7m {l : List Knot} (h : Asc l) {i a b z : Nat} {x0 x : Int} (h0 : l[i]? = some (x0, (a : Int))) (h1 : l[i + 1]? = some (x, (b : Int))) (hz : a ≤ z ∧ z < b) (f : Nat → Strp) (side : Nat) :
  putT (layF f l side z) z side x0 x = layF f l side (z + 1) := by
 have hi : i + 1 < l.length := (List.getElem?_eq_some_iff.1 h1).1
 have e0 : l[i] = (x0, (a : Int)) := by rw [List.getElem?_eq_getElem (by omega)] at h0; exact Option.some.inj h0
 have e1 : l[i + 1] = (x, (b : Int)) := by rw [List.getElem?_eq_getElem hi] at h1; exact Option.some.inj h1
 have hp := Z7l l i z h.up h.stepx hi (by rw [e0, e1]; simp only; omega)
 rw [e0, e1] at hp
 funext t
 unfold putT layF
 by_cases ht : t = z
 ·subst ht
  rw [if_pos rfl, if_neg (by omega), if_pos (by omega), hp]
 ·rw [if_neg ht]
  by_cases h2 : t < z
  ·rw [if_pos h2, if_pos (by omega)]
  ·rw [if_neg h2, if_neg (by omega)]
theorem Z7n (L R : List Knot) (n : Nat) : (List.range n).map (layF (layF (fun _ => (0, 0, 0, 0)) L 0 n) R 1 n) = (List.range n).map fun y => strI L R (y : Nat) := by
 refine List.map_congr_left fun z hz => ?_
 have := List.mem_range.1 hz
 unfold layF
 rw [if_pos this, if_pos this]
 rfl
end Go.Proofs.YtpcgeihemkhkjaaGreatDoor
namespace Go.Proofs.YtpcgeihemkhkjaaGreatDoor
open Go.RowKit
section
variable {F : Fence} {n : Nat} {P : Program} {ops : Array Oper} {Q : Exit → Act → World → Prop} {md : Region.Mode} {C : World → Prop} {kp : Nat → Bool}
def Z7o (o : Oper) : Bool := match o.op with | .defer _ => true | _ => false
def Z7p (ops : Array Oper) : Bool := ops.all fun o => !Z7o o
theorem Z7q (h : Z7p ops = true) {i : Nat} {o : Oper} (ho : ops[i]? = some o) : ∀ c, o.op ≠ .defer c := by
 intro c e
 have := Array.all_eq_true'.1 h o (Array.mem_of_getElem? ho)
 simp [Z7o, e] at this
theorem Z7r (hF : ∀ f, F.fn f) {i : Nat} {o : Oper} {v : Value} {a : Act} (hd : ∀ c, o.op ≠ .defer c) (hi : ops[i]? = some o) (hy : YieldsIf P ops C o v a)
  {K : Act → World → Prop} {w : World} (hS : C w) (h : K (a.put o.dst v) w) : wpOpIn F n P ops Q i K a w := by
 unfold Go.wpOpIn
 simp only [hi]
 rcases hy with ⟨hw, hv⟩ | ⟨hw, rfl⟩
 ·simp only [hw, if_true, Oper.wpIn, Oper.semAt_plain F _ _ hd, hv w hS, Oper.uponIn]
  exact ⟨fun f _ => hF f, h⟩
 ·simp only [hw, Bool.false_eq_true, if_false]
  exact ⟨fun f _ => hF f, h⟩
theorem Z7s (hF : ∀ f, F.fn f) {j : Nat} {oi oj : Oper} {v : Value} (hdj : ∀ c, oj.op ≠ .defer c) (hj : ops[j]? = some oj) (hap : oi.apart ops oj = true)
  (hsi : ∀ cs b, oi.op ≠ .select cs b) (hsj : ∀ cs b, oj.op ≠ .select cs b)
  (hQ : ∀ c a w, Q (.panic c) (a.put oi.dst v) w → Q (.panic c) a w) {K : Act → World → Prop} {a : Act} {w : World}
  (hy : YieldsIf P ops C oi v a) (h : wpOpIn F n P ops Q j K (a.put oi.dst v) w) :
  wpOpIn F n P ops Q j (fun a' w' => YieldsIf P ops C oi v a' ∧ K (a'.put oi.dst v) w') a w := by
 obtain ⟨h1, h2, h3⟩ := Oper.apart_spec hap
 have keep : ∀ (a : Act), YieldsIf P ops C oi v a → ∀ u, YieldsIf P ops C oi v (a.put oj.dst u) := fun a hy u =>
  hy.of_same (execOp_put oi hsi a oj.dst u h3) (wanted_put oi a oj.dst u h3)
 have keepD : ∀ d, YieldsIf P ops C oi v { a with defers := d :: a.defers } := fun d => hy.of_same rfl rfl
 unfold Go.wpOpIn at *
 simp only [hj] at *
 rw [wanted_put oj a oi.dst v h1] at h
 split
 ·rename_i hw
  simp only [hw, if_true] at h; unfold Oper.wpIn at *
  refine ⟨fun f _ => hF f, ?_⟩
  have h := h.2
  rw [Oper.semAt_plain F _ _ hdj, execOp_put oj hsj a oi.dst v h1] at h; rw [Oper.semAt_plain F _ _ hdj]; generalize (execOp a.eval oj).run P w = r at *
  cases r with
  | ok x w' =>
   cases x <;> simp only [Oper.uponIn] at h ⊢
   case value u => exact ⟨keep a hy u, by rw [← Act.put_comm a v u h2]; exact h⟩
   case skip => exact ⟨keep a hy _, by rw [← Act.put_comm a v undef h2]; exact h⟩
   case defer d =>
    refine ⟨keep _ (keepD d) _, ?_⟩
    rw [← Act.put_comm _ v undef h2, ← Act.put_defers]; exact h
   case enter f args =>
    refine ⟨h.1, CallsIn.mono h.2 fun e w'' he => ?_⟩
    cases e with
    | returned u => exact ⟨keep a hy u, by rw [← Act.put_comm a v u h2]; exact he⟩
    | panicked c => exact hQ _ _ _ he
    | outgrown => exact he
   case row row args => exact ⟨h.1, RowsIn.mono h.2 fun u w'' he => ⟨keep a hy u, by rw [← Act.put_comm a v u h2]; exact he⟩⟩
   case round l f tmps assign body =>
    refine ⟨h.1, RoundIn.mono h.2 fun e w'' he => ?_⟩
    cases e with
    | returned u => exact ⟨keep a hy u, by rw [← Act.put_comm a v u h2]; exact he⟩
    | panicked c => exact hQ _ _ _ he
    | outgrown => exact he
  | halt x w' =>
   cases x <;> simp only [Oper.uponIn] at h ⊢
   case panic u => exact hQ _ _ _ h
 ·rename_i hw
  simp only [hw] at h; exact ⟨fun f _ => hF f, keep a hy _, by rw [← Act.put_comm a v undef h2]; exact h.2⟩
def Z7t (F : Fence) (n : Nat) (P : Program) (md : Region.Mode) (ops : Array Oper) (Q : Exit → Act → World → Prop) (C : World → Prop) (kp : Nat → Bool) : Nat → Array Bool → Act → World → Prop
  | 0, listed, a, w => Region.ready md ops listed = [] ∧ Q .normal a w
  | f + 1, listed, a, w => (Region.ready md ops listed = [] → Q .normal a w) ∧
      ∀ i ∈ Region.ready md ops listed, wpOpIn F n P ops Q i (fun a' w' => (kp i = true → C w') ∧ Z7t F n P md ops Q C kp f (listed.setIfInBounds i true) a' w') a w
theorem Z7u : ∀ (f : Nat) (listed : Array Bool) (a : Act) (w : World), Z7t F n P md ops Q C kp f listed a w → wpAnyIn F n P md ops Q f listed a w
 | 0, _, _, _, h => h
 | f + 1, _, _, _, h => ⟨h.1, fun i hi => wpOpIn_mono (fun a' w' h' => Z7u f _ a' w' h'.2) (h.2 i hi)⟩
theorem Z7v (hF : ∀ f, F.fn f) (hnd : Z7p ops = true) {i : Nat} {oi : Oper} {v : Value} {N : Nat} (hi : ops[i]? = some oi) (hsel : ∀ (j : Nat) (o : Oper) cs b, ops[j]? = some o → o.op ≠ .select cs b)
    (hQ : ∀ c a w, Q (.panic c) (a.put oi.dst v) w → Q (.panic c) a w) :
    ∀ (fuel : Nat) (listed : Array Bool) (a : Act) (w : World), Z0g md ops listed →
      (∀ j oj, ops[j]? = some oj → j ≠ i → listed.getD j true = false → (∀ e ∈ oj.after, Region.binds md e = true → e.on ≠ i) → oi.apart ops oj = true) →
      (∀ j, j < ops.size → j ≠ i → listed.getD j true = false → kp j = true ∨ Z0f md ops N j i = true) →
      i ∈ Region.ready md ops listed → YieldsIf P ops C oi v a → C w →
      Z7t F n P md ops Q C kp fuel (listed.setIfInBounds i true) (a.put oi.dst v) w → Z7t F n P md ops Q C kp (fuel + 1) listed a w := by
  intro fuel; induction fuel with
  | zero =>
    intro listed a w _ _ _ hr hy hC H; refine ⟨fun h => (by rw [h] at hr; cases hr), fun j hj => ?_⟩
    by_cases hji : j = i
    · subst hji; exact Z7r hF (Z7q hnd hi) hi hy hC ⟨fun _ => hC, H⟩
    · have := ready_mono hj hji
      rw [H.1] at this; cases this
  | succ fuel ih =>
    intro listed a w hcl hfree hkp hr hy hC H; refine ⟨fun h => (by rw [h] at hr; cases hr), fun j hj => ?_⟩
    by_cases hji : j = i
    · subst hji; exact Z7r hF (Z7q hnd hi) hi hy hC ⟨fun _ => hC, H⟩
    · have h1 := H.2 j (ready_mono hj hji)
      obtain ⟨hjun, oj, hoj, hall⟩ := mem_ready.1 hj
      have hiun : listed.getD i false = false := Z0i (mem_ready.1 hr).1
      have hnot : ∀ e ∈ oj.after, Region.binds md e = true → e.on ≠ i := fun e he hb heq => by
        have h1 := hall e he hb
        rw [heq, hiun] at h1; cases h1
      have hkj : kp j = true := by
        rcases hkp j (Array.getElem?_eq_some_iff.1 hoj).1 hji hjun with h | h
        · exact h
        · have := Z0h hcl N j h (fun oj' hj' e he hb => by
            obtain rfl : oj = oj' := Option.some.inj (hoj.symm.trans hj')
            exact hall e he hb)
          rw [hiun] at this; cases this
      have h2 := Z7s hF (Z7q hnd hoj) hoj (hfree j oj hoj hji hjun hnot) (fun cs b => hsel i oi cs b hi) (fun cs b => hsel j oj cs b hoj) hQ hy h1
      have hun' : ∀ k, (listed.setIfInBounds j true).getD k true = false → listed.getD k true = false := fun k hun => by
        by_cases hjk : j = k
        · subst hjk; exact hjun
        · rw [getD_set_ne true hjk] at hun; exact hun
      refine wpOpIn_mono (fun a' w' h3 => ⟨fun _ => h3.2.1 hkj, ih (listed.setIfInBounds j true) a' w' (hcl.set hj) (fun k ok hk hki hun hno => hfree k ok hk hki (hun' k hun) hno)
        (fun k hks hki hun => hkp k hks hki (hun' k hun)) (ready_mono hr (Ne.symm hji)) h3.1 (h3.2.1 hkj) ?_⟩) h2
      rw [Array.setIfInBounds_comm _ _ hji]; exact h3.2.2
def Z7w (F : Fence) (n : Nat) (P : Program) (ops : Array Oper) (Q : Exit → Act → World → Prop) (C : World → Prop) (post : List Oper) : List (Oper × Bool) → Act → World → Prop
 | [], a, w => wpListIn F n P ops Q post a w
 | (o, t) :: r, a, w =>
  if t = true then (if Region.wanted o (yielded ops a.tmps) then o.quiet P a C (fun a' => Z7w F n P ops Q C post r a' w) else Z7w F n P ops Q C post r (a.put o.dst undef) w)
  else if Region.wanted o (yielded ops a.tmps) then o.wpIn F n P a w (fun a' w' => C w' ∧ Z7w F n P ops Q C post r a' w') Q else Z7w F n P ops Q C post r (a.put o.dst undef) w
theorem Z7x (hF : ∀ f, F.fn f) {kp : Nat → Bool} : ∀ (post : List Nat) (listed : Array Bool) (a : Act) (w : World), (∀ i ∈ post, kp i = false) → Z0p md ops post listed = true →
  wpListIn F n P ops Q (post.map fun i => ops.getD i default) a w → Z7t F n P md ops Q C kp post.length listed a w
 | [], listed, a, w, _, hB, h => ⟨by simpa [Z0p] using hB, h⟩
 | i :: r, listed, a, w, hk, hB, h => by
  simp only [Z0p, Bool.and_eq_true, decide_eq_true_eq] at hB; refine ⟨fun h0 => (by rw [hB.1] at h0; cases h0), fun j hj => ?_⟩
  obtain ⟨_, o, ho, _⟩ := mem_ready.1 hj
  rw [hB.1] at hj; obtain rfl : j = i := by simpa using hj
  have hg : ops.getD j default = o := by simp [ho]
  simp only [List.map_cons, hg] at h; unfold Go.wpOpIn; simp only [ho]; unfold wpListIn at h; have hkj := hk j (by simp)
  split
  ·rename_i hw
   rw [if_pos hw] at h; exact Oper.wpIn_mono (fun a' w' h' => ⟨fun e => (by rw [hkj] at e; cases e), Z7x hF r _ a' w' (fun i hi => hk i (by simp [hi])) hB.2 h'⟩) h
  ·rename_i hw
   rw [if_neg hw] at h; exact ⟨fun f _ => hF f, fun e => (by rw [hkj] at e; cases e), Z7x hF r _ _ w (fun i hi => hk i (by simp [hi])) hB.2 h.2⟩
theorem Z7y (hF : ∀ f, F.fn f) (hnd : Z7p ops = true) {post : List Nat} (hs : Region.noSelect ops = true) (hQ : ∀ d c a v w, Q (.panic c) (Act.put a d v) w → Q (.panic c) a w) {w : World} (hC : C w)
  {i fuel : Nat} {listed : Array Bool} {a : Act} {o : Oper} (hg : ops.getD i default = o) (hcl : Z0g md ops listed) (hB : Z0q md ops post i listed = true) (K : Act → Prop)
  (hK : ∀ v, K (a.put o.dst v) → Z7t F n P md ops Q C (fun j => !post.contains j) fuel (listed.setIfInBounds i true) (a.put o.dst v) w)
  (h : if Region.wanted o (yielded ops a.tmps) then o.quiet P a C K else K (a.put o.dst undef)) :
  Z7t F n P md ops Q C (fun j => !post.contains j) (fuel + 1) listed a w := by
 simp only [Z0q, Bool.and_eq_true] at hB
 obtain ⟨⟨⟨hr, hf⟩, hp⟩, hkp⟩ := hB
 have hr' : i ∈ Region.ready md ops listed := by simpa using hr
 obtain ⟨hun, o', ho, hall⟩ := mem_ready.1 hr'
 have hg' : ops.getD i default = o' := by simp [ho]
 obtain rfl : o = o' := hg.symm.trans hg'
 simp only [ho] at hp
 have hy : ∃ v, YieldsIf P ops C o v a ∧ K (a.put o.dst v) := by
  by_cases hw : Region.wanted o (yielded ops a.tmps) = true
  ·rw [if_pos hw] at h
   obtain ⟨v, h1, h2⟩ := h; exact ⟨v, Z0n hp hw h1, h2⟩
  ·rw [if_neg hw] at h
   exact ⟨undef, .inr ⟨by simpa using hw, rfl⟩, h⟩
 obtain ⟨v, hy, h'⟩ := hy
 refine Z7v (N := ops.size) hF hnd ho (Region.noSelect_spec hs) (fun c a w => hQ _ c a v w) _ listed a w hcl (Region.free_spec ho hf) (fun j hj hji hjun => ?_) hr' hy hC (hK v h')
 have := List.all_eq_true.1 hkp j (List.mem_range.2 hj)
 simp only [Bool.or_eq_true, beq_iff_eq, hji, false_or, hjun, Bool.false_eq_true] at this
 exact this
theorem Z7z (hF : ∀ f, F.fn f) (hnd : Z7p ops = true) {post : List Nat} (hs : Region.noSelect ops = true) (hQ : ∀ d c a v w, Q (.panic c) (Act.put a d v) w → Q (.panic c) a w) :
  ∀ (mid : List (Nat × Bool)) (listed : Array Bool) (a : Act) (w : World), Z0g md ops listed → C w → Z0r md ops post mid listed = true →
  Z7w F n P ops Q C (post.map fun i => ops.getD i default) (mid.map fun i => (ops.getD i.1 default, i.2)) a w → Z7t F n P md ops Q C (fun j => !post.contains j) (mid.length + post.length) listed a w
 | [], listed, a, w, _, _, hB, h => by
  rw [List.length_nil, Nat.zero_add]; exact Z7x hF post listed a w (fun i hi => by simp [hi]) hB h
 | (i, t) :: r, listed, a, w, hcl, hC, hB, h => by
  rw [List.length_cons, show r.length + 1 + post.length = (r.length + post.length) + 1 by omega]
  simp only [Z0r, Bool.and_eq_true] at hB; cases t with
  | true =>
   simp only [if_true] at hB; simp only [List.map_cons, Z7w, if_true] at h
   exact Z7y hF hnd (post := post) hs hQ hC (o := ops.getD i default) rfl hcl hB.1 (fun a' => Z7w F n P ops Q C (post.map fun i => ops.getD i default) (r.map fun i => (ops.getD i.1 default, i.2)) a' w)
    (fun v h' => Z7z hF hnd hs hQ r _ _ w (hcl.set (Z0v hB.1)) hC hB.2 h') h
  | false =>
   simp only [Bool.false_eq_true, if_false, decide_eq_true_eq] at hB; refine ⟨fun h0 => (by rw [hB.1] at h0; cases h0), fun j hj => ?_⟩
   obtain ⟨_, o, ho, _⟩ := mem_ready.1 hj
   have hj' := hj
   rw [hB.1] at hj; obtain rfl : j = i := by simpa using hj
   have hg : ops.getD j default = o := by simp [ho]
   simp only [List.map_cons, Z7w, Bool.false_eq_true, if_false, hg] at h; unfold Go.wpOpIn; simp only [ho]; split
   ·rename_i hw
    rw [if_pos hw] at h; exact Oper.wpIn_mono (fun a' w' h' => ⟨fun _ => h'.1, Z7z hF hnd hs hQ r _ a' w' (hcl.set hj') h'.1 hB.2 h'.2⟩) h
   ·rename_i hw
    rw [if_neg hw] at h; exact ⟨fun f _ => hF f, fun _ => hC, Z7z hF hnd hs hQ r _ _ w (hcl.set hj') hC hB.2 h⟩
theorem Z80 (hF : ∀ f, F.fn f) (hnd : Z7p ops = true) {mid : List (Nat × Bool)} {post : List Nat} (hs : Region.noSelect ops = true) (hQ : ∀ d c a v w, Q (.panic c) (Act.put a d v) w → Q (.panic c) a w) {w : World} (hC : C w) :
  ∀ (pre : List Nat) (listed : Array Bool) (a : Act), Z0g md ops listed → Z0s md ops mid post pre listed = true →
  wpQuiet P ops C (fun a' => Z7w F n P ops Q C (post.map fun i => ops.getD i default) (mid.map fun i => (ops.getD i.1 default, i.2)) a' w) (pre.map fun i => ops.getD i default) a →
  Z7t F n P md ops Q C (fun j => !post.contains j) (pre.length + (mid.length + post.length)) listed a w
 | [], listed, a, hcl, hB, h => by
  rw [List.length_nil, Nat.zero_add]; exact Z7z hF hnd hs hQ mid listed a w hcl hC hB h
 | i :: r, listed, a, hcl, hB, h => by
  rw [List.length_cons, show r.length + 1 + (mid.length + post.length) = (r.length + (mid.length + post.length)) + 1 by omega]
  simp only [Z0s, Bool.and_eq_true] at hB; simp only [List.map_cons] at h; unfold wpQuiet at h
  exact Z7y hF hnd (post := post) hs hQ hC (o := ops.getD i default) rfl hcl hB.1 (fun a' => wpQuiet P ops C (fun a' => Z7w F n P ops Q C (post.map fun i => ops.getD i default) (mid.map fun i => (ops.getD i.1 default, i.2)) a' w) (r.map fun i => ops.getD i default) a')
   (fun v h' => Z80 hF hnd hs hQ hC r _ _ (hcl.set (Z0v hB.1)) hB.2 h') h
theorem Z81 {id : Nat} {a : Act} {w : World} {l : List Oper} (pre : List Nat) (mid : List (Nat × Bool)) (post : List Nat) (hF : ∀ f, F.fn f) (hnd : Z7p l.toArray = true) (hm : P.follows .mixedOrders = true) (hB : ordB .any l.toArray pre mid post = true)
  (hQ : ∀ d c a v w, Q (.panic c) (Act.put a d v) w → Q (.panic c) a w)
  (h : wpQuiet P l.toArray (fun w' => ∃ g : Bel w.heap.size w, w' = g.val) (fun a' => Z7w F n P l.toArray Q (fun w' => ∃ g : Bel w.heap.size w, w' = g.val) (post.map fun i => l.getD i default) (mid.map fun i => (l.getD i.1 default, i.2)) a' w.drew) (pre.map fun i => l.getD i default) a) :
  (Code.region id l.toArray true).wpIn F n P Q a w := by
 simp only [ordB, Bool.and_eq_true, decide_eq_true_eq] at hB
 obtain ⟨⟨hs, hn⟩, hB'⟩ := hB
 refine wpIn_region_any hm (Z7u (C := fun w' => ∃ g : Bel w.heap.size w, w' = g.val) (kp := fun j => !post.contains j) _ _ _ _ ?_)
 rw [hn, Nat.add_assoc]
 refine Z80 hF hnd hs hQ (Bel.ex (Below.refl _ w).drew) pre _ a (Z0g.start _) (by simpa [hn, Nat.add_assoc] using hB') ?_
 have e : ∀ (xs : List Nat), (xs.map fun i => l.toArray.getD i default) = xs.map fun i => l.getD i default := fun xs => List.map_congr_left fun i _ => by simp [Array.getD_eq_getD_getElem?, List.getD_eq_getElem?_getD]
 have e2 : (mid.map fun i => (l.toArray.getD i.1 default, i.2)) = mid.map fun i => (l.getD i.1 default, i.2) := List.map_congr_left fun i _ => by simp [Array.getD_eq_getD_getElem?, List.getD_eq_getElem?_getD]
 rw [e, e, e2]
 exact h
theorem Z82 {post : List Oper} {a : Act} {w : World} (h : wpListIn F n P ops Q post a w) : Z7w F n P ops Q C post [] a w := h
theorem Z83 {B : Nat} {w0 : World} {post : List Oper} {o : Oper} {r : List (Oper × Bool)} {a : Act} {w : World} (hw : Region.wanted o (yielded ops a.tmps) = true)
  (h : ∀ K : Act → World → Prop, (∀ a w', Below B w0 w' → Z7w F n P ops Q (fun w' => ∃ g : Bel B w0, w' = g.val) post r a w' → K a w') → o.wpIn F n P a w K Q) : Z7w F n P ops Q (fun w' => ∃ g : Bel B w0, w' = g.val) post ((o, false) :: r) a w := by
 have := h (fun a w' => (∃ g : Bel B w0, w' = g.val) ∧ Z7w F n P ops Q (fun w' => ∃ g : Bel B w0, w' = g.val) post r a w') (fun a w h1 h2 => ⟨Bel.ex h1, h2⟩)
 simp only [Z7w, Bool.false_eq_true, if_false, hw, if_true]
 exact this
end
attribute [irreducible] Z7w
end Go.Proofs.YtpcgeihemkhkjaaGreatDoor

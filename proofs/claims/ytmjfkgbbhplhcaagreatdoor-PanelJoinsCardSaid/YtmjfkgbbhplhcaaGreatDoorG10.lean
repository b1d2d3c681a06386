/- The knots of a net, of the reference, walked. Conditions: bars within bounds. -/
import Derived.Test.YtmjfkgbbhplhcaaGreatDoorG09
import Derived.Deep.CutRange
namespace Go.Proofs.YtmjfkgbbhplhcaaGreatDoor
open Go.RowKit Go.ChangeMaps
set_option maxHeartbeats 4000000
set_option maxRecDepth 100000

def endK (b : Bar) : Nat → Knot
  | 0 => lowK b
  | _ => uppK b
/-- the ends of the bars, one by one -/
def endsL (l : List Bar) : List Knot := l.flatMap fun b => [lowK b, uppK b]
theorem endsL_len (l : List Bar) : (endsL l).length = 2 * l.length := by
  induction l with
  | nil => rfl
  | cons b r ih => simp only [endsL, List.flatMap_cons, List.length_append, List.length_cons, List.length_nil] at ih ⊢; omega
theorem endsL_get : ∀ (l : List Bar) (i : Nat) (b : Bar), l[i / 2]? = some b → (endsL l)[i]? = some (endK b (i % 2))
  | [], i, b, h => by simp at h
  | x :: r, 0, b, h => by
    obtain rfl : x = b := by simpa using h
    rfl
  | x :: r, 1, b, h => by
    obtain rfl : x = b := by simpa using h
    rfl
  | x :: r, i + 2, b, h => by
    have e : (i + 2) / 2 = i / 2 + 1 := by omega
    rw [e, List.getElem?_cons_succ] at h
    have := endsL_get r i b h
    rw [show (i + 2) % 2 = i % 2 by omega]
    simpa [endsL] using this
theorem holeIn_ends : ∀ (l : List Bar) (o : List Knot), holeIn o l = (endsL l).foldl insK o
  | [], o => rfl
  | b :: r, o => by
    show holeIn (insK (insK o (lowK b)) (uppK b)) r = _
    rw [holeIn_ends r]
    rfl
def kIn (l : List Bar) (n : Nat) : List Knot := ((endsL l).take n).foldl insK []
theorem kIn_all {l : List Bar} {n : Nat} (h : 2 * l.length ≤ n) : kIn l n = holeK l := by
  unfold kIn holeK
  rw [holeIn_ends, List.take_of_length_le (by rw [endsL_len]; exact h)]
theorem kIn_succ {l : List Bar} {i : Nat} (h : i / 2 < l.length) : kIn l (i + 1) = insK (kIn l i) (endK l[i / 2] (i % 2)) := by
  have h1 := endsL_get l i l[i / 2] (List.getElem?_eq_getElem h)
  obtain ⟨hi, he⟩ := List.getElem?_eq_some_iff.1 h1
  unfold kIn
  rw [List.take_succ_eq_append_getElem hi, List.foldl_append, he]; rfl
theorem foldK_len : ∀ (m o : List Knot), (m.foldl insK o).length ≤ o.length + m.length
  | [], o => by simp
  | k :: m, o => by
    have h := foldK_len m (insK o k)
    have h1 := insK_len k o
    simp only [List.foldl_cons, List.length_cons]
    omega
theorem kIn_len (l : List Bar) (n : Nat) : (kIn l n).length ≤ 2 * l.length := by
  have := foldK_len ((endsL l).take n) []
  have h2 : ((endsL l).take n).length ≤ (endsL l).length := by rw [List.length_take]; omega
  rw [endsL_len] at h2
  simp only [List.length_nil] at this
  unfold kIn
  omega
end Go.Proofs.YtmjfkgbbhplhcaaGreatDoor

/- The knots of a net, of the program, walked. Conditions: bars within bounds. -/
namespace Go.Proofs.YtmjfkgbbhplhcaaGreatDoor
open Go.RowKit Go.ChangeMaps
set_option maxHeartbeats 4000000
set_option maxRecDepth 100000

theorem Blk.two_knots {w : World} {g : Nat} {t : TypeId} {x y x' y' : Int} (hB : Blk w g t #[.int .i64 x, .int .i64 y, .int .i64 x', .int .i64 y']) : SlK w (.slice (some ⟨g, 0, none⟩) 2 2) [(x, y), (x', y')] := by
  refine ⟨_, 2, rfl, by simp, by simp [maxLen], fun i b hb => ?_⟩
  match i, hb with
  | 0, hb =>
    obtain rfl : (x, y) = b := by simpa using hb
    refine ⟨_, 0, rfl, hB.lt, fun j u hj => ?_⟩
    rw [hB.cell]
    match j, hj with
    | 0, hj => simpa [kc] using hj
    | 1, hj => simpa [kc] using hj
  | 1, hb =>
    obtain rfl : (x', y') = b := by simpa using hb
    refine ⟨_, 0, rfl, hB.lt, fun j u hj => ?_⟩
    rw [hB.cell]
    match j, hj with
    | 0, hj => simpa [kc] using hj
    | 1, hj => simpa [kc] using hj
theorem endsL_mem (l : List Bar) (k : Knot) : k ∈ endsL l ↔ ∃ b ∈ l, k = lowK b ∨ k = uppK b := by
  unfold endsL
  simp [List.mem_flatMap]
theorem endsL_take {l : List Bar} {k : Nat} (hk : k < l.length) : endsL (l.take (k + 1)) = endsL (l.take k) ++ [lowK l[k], uppK l[k]] := by
  unfold endsL
  rw [List.take_succ_eq_append_getElem hk, List.flatMap_append]; rfl
theorem knots_eq (l : List Bar) : ddL (srtK (endsL l)) = holeK l :=
  sortedK_eq (dd_sorted kltP_tr (sorted_of ltK_iff swoK (fun _ _ => kltP_tri) _)) (holeK_sorted l) fun k => by
    rw [dd_mem, srtK_mem, endsL_mem]
    unfold holeK
    rw [holeIn_mem]
    simp
end Go.Proofs.YtmjfkgbbhplhcaaGreatDoor

/- The degrees of the knots of a net, of the program, walked. Conditions: bars within bounds. -/
namespace Go.Proofs.YtmjfkgbbhplhcaaGreatDoor
open Go.RowKit Go.ChangeMaps
set_option maxHeartbeats 4000000
set_option maxRecDepth 100000

section
variable {κ : Type} [DecidableEq κ]
variable {ek : κ → Value} {w : World} {r : Nat} {m : List (κ × Nat × Nat)} {c : Nat} {P : Program} {k e t : TypeId}
/-- 'm[k]++', its operations apart; what else lies in the heap stays -/
theorem MapAt.incrC (h : MapAt ek cntV w r m c) (ok : MOk m c) (K : KeyLaw P k ek) (ht : P.underlying t = some (.map k e)) (hz : ∀ u : World, (zeroValue e).run P u = .ok (.int .i64 0) u) (a : κ) {v0 : Nat} (hv : (mget a m).getD 0 = v0) :
    ∃ (w1 w2 : World) (sm c2 : Nat), (Instr.mapEntry t (.map (some r)) (ek a)).run P w = .ok (.tuple #[.int .i64 (v0 : Int), .int .i64 (sm : Int)]) w1 ∧
      (Instr.lookup t (.map (some r)) (ek a) false).run P w = .ok (.int .i64 (v0 : Int)) w ∧ (Instr.lookup t (.map (some r)) (ek a) false).run P w1 = .ok (.int .i64 (v0 : Int)) w1 ∧
      (Instr.entryStore t (.map (some r)) (.int .i64 (sm : Int)) (.int .i64 ((v0 : Int) + 1))).run P w1 = .ok () w2 ∧
      MapAt ek cntV w2 r (mput a (v0 + 1) c m) c2 ∧ MOk (mput a (v0 + 1) c m) c2 ∧ Chg [r] w w1 ∧ Chg [r] w w2 := by
  have hlt := h.lt
  have e1 := h.entry K ht (z := 0) (hz w) a
  rw [hv] at e1
  have h1 : MapAt ek cntV (setBlock w r (.map ((mput a v0 c m).map (ment ek cntV)).toArray (mclk a m c))) r (mput a v0 c m) (mclk a m c) := by
    show (w.heap.setIfInBounds r _)[r]? = _
    rw [Array.getElem?_setIfInBounds_self_of_lt hlt]
  have ok1 := ok.put a v0
  have e2 := h.look K ht (hz w) a
  have e3 := h1.look K ht (hz _) a
  have e4 := h1.estore (t := t) ok1 a (mput_mem a v0 c m) (v0 + 1) (P := P)
  rw [mput_put, mstamp_put] at e4
  have h2 : MapAt ek cntV (setBlock (setBlock w r (.map ((mput a v0 c m).map (ment ek cntV)).toArray (mclk a m c))) r (.map ((mput a (v0 + 1) c m).map (ment ek cntV)).toArray (mclk a m c))) r (mput a (v0 + 1) c m) (mclk a m c) := by
    show ((w.heap.setIfInBounds r _).setIfInBounds r _)[r]? = _
    rw [Array.getElem?_setIfInBounds_self_of_lt (by simp; exact hlt)]
  refine ⟨_, _, mstamp a m c, mclk a m c, e1, ?_, ?_, e4, h2, ok.put a (v0 + 1), Chg.refl.setBlock (by simp) _, (Chg.refl.setBlock (by simp) _).setBlock (by simp) _⟩
  · rw [e2]
    cases hm : mget a m with
    | none => rw [hm] at hv; obtain rfl : 0 = v0 := hv; rfl
    | some q => rw [hm] at hv; obtain rfl : q = v0 := hv; rfl
  · rw [e3, mget_put, if_pos rfl]; rfl
end
@[go_sem] theorem mk_map {P : Program} (t : TypeId) (w : World) : (Instr.makeMap t none).run P w = .ok (.map (some w.heap.size)) (w.alloc (.map #[] 0)) := rfl
theorem zero_int (w : World) : (zeroValue 3).run Tryz.prog w = .ok (.int .i64 0) w := by kernel_rfl
/-- how many of the ends are a knot, as a map has it -/
def cntO (n : Nat) : Option Nat := if n = 0 then none else some n
def degN (l : List Bar) (k : Knot) : Nat := (endsL l).count k
/-- a map of the call's own that holds the degrees -/
def RM (w : World) (f : Knot → Nat) (e : Ending) (w' : World) : Prop :=
  ∃ r m c, e = .returned (.map (some r)) ∧ w.heap.size ≤ r ∧ MapAt kk cntV w' r m c ∧ MOk m c ∧ (∀ k, mget k m = cntO (f k)) ∧ Below w.heap.size w w'
theorem cntO_getD (n : Nat) : (cntO n).getD 0 = n := by unfold cntO; split <;> simp_all
theorem cnt_put {m : List (Knot × Nat × Nat)} {E : List Knot} {a : Knot} {c : Nat} (h : ∀ k, mget k m = cntO (E.count k)) (k : Knot) : mget k (mput a (E.count a + 1) c m) = cntO ((E ++ [a]).count k) := by
  rw [mget_put, List.count_append]
  by_cases hk : k = a
  · subst hk
    rw [if_pos rfl]
    simp [cntO]
  · rw [if_neg hk, h k]
    have : List.count k [a] = 0 := by simp [Ne.symm hk]
    rw [this, Nat.add_zero]
end Go.Proofs.YtmjfkgbbhplhcaaGreatDoor

/- Knots, Degree and Legs of the program, walked. Conditions: the slices read as lists. -/
namespace Go.Proofs.YtmjfkgbbhplhcaaGreatDoor
open Go.RowKit Go.ChangeMaps
set_option maxHeartbeats 4000000
set_option maxRecDepth 100000

/-- a row of bars .. of knots, and an error -/
def RBE (w : World) (l : List Bar) (n : Int) (e : Ending) (w' : World) : Prop := ∃ v, e = .returned (.tuple #[v, .int .i64 n]) ∧ OwB w.heap.size w' v l ∧ Below w.heap.size w w'
def RKE (w : World) (l : List Knot) (n : Int) (e : Ending) (w' : World) : Prop := ∃ v, e = .returned (.tuple #[v, .int .i64 n]) ∧ OwK w.heap.size w' v l ∧ Below w.heap.size w w'
theorem nnet_sl {v : Value} (l : List Bar) (w : World) (h : SlB w v l) : Calls Tryz.prog 135 #[v] w (RV w (.int .i64 (netE l))) := by
  obtain ⟨A, c, rfl, hlc, hcm, h⟩ := h
  exact nnet_any l A c w (Nat.le_trans hlc hcm) h
theorem NetOk.len1 {l : List Bar} (h : NetOk l) : l.length ≤ 10000 := Nat.le_trans h.len (by decide)
def onlyOk {α : Type} (e : Int) (l : List α) : List α := if e = 0 then l else []
/-- the first error of a net and a number -/
def degE (l : List Bar) (x y : Int) : Int := firstI [netE l, knotE x y]
def degR (l : List Bar) (x y : Int) : Nat := if degE l x y = 0 then degN l (x, y) else 0
end Go.Proofs.YtmjfkgbbhplhcaaGreatDoor

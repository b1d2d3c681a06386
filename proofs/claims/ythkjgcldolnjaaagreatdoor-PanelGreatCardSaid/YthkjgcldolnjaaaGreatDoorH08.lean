/- The knots of a net, of the reference, walked. Conditions: bars within bounds. -/
import Derived.Test.YthkjgcldolnjaaaGreatDoorH07
import Derived.Deep.CutRange
namespace Go.Proofs.YthkjgcldolnjaaaGreatDoor
open Go.RowKit Go.ChangeMaps
set_option maxHeartbeats 4000000
set_option maxRecDepth 100000

def endK (b : Bar) : Nat → Knot
  | 0 => lowK b
  | _ => uppK b
/-- the ends of the bars, one by one -/
def endsL (l : List Bar) : List Knot := l.flatMap fun b => [lowK b, uppK b]
theorem endsL_len (l : List Bar) : (endsL l).length = 2 * l.length := by
  induction l with
  | nil => rfl
  | cons b r ih => simp only [endsL, List.flatMap_cons, List.length_append, List.length_cons, List.length_nil] at ih ⊢; omega
theorem endsL_get : ∀ (l : List Bar) (i : Nat) (b : Bar), l[i / 2]? = some b → (endsL l)[i]? = some (endK b (i % 2))
  | [], i, b, h => by simp at h
  | x :: r, 0, b, h => by
    obtain rfl : x = b := by simpa using h
    rfl
  | x :: r, 1, b, h => by
    obtain rfl : x = b := by simpa using h
    rfl
  | x :: r, i + 2, b, h => by
    have e : (i + 2) / 2 = i / 2 + 1 := by omega
    rw [e, List.getElem?_cons_succ] at h
    have := endsL_get r i b h
    rw [show (i + 2) % 2 = i % 2 by omega]
    simpa [endsL] using this
theorem holeIn_ends : ∀ (l : List Bar) (o : List Knot), holeIn o l = (endsL l).foldl insK o
  | [], o => rfl
  | b :: r, o => by
    show holeIn (insK (insK o (lowK b)) (uppK b)) r = _
    rw [holeIn_ends r]
    rfl
def kIn (l : List Bar) (n : Nat) : List Knot := ((endsL l).take n).foldl insK []
theorem kIn_all {l : List Bar} {n : Nat} (h : 2 * l.length ≤ n) : kIn l n = holeK l := by
  unfold kIn holeK
  rw [holeIn_ends, List.take_of_length_le (by rw [endsL_len]; exact h)]
theorem kIn_succ {l : List Bar} {i : Nat} (h : i / 2 < l.length) : kIn l (i + 1) = insK (kIn l i) (endK l[i / 2] (i % 2)) := by
  have h1 := endsL_get l i l[i / 2] (List.getElem?_eq_getElem h)
  obtain ⟨hi, he⟩ := List.getElem?_eq_some_iff.1 h1
  unfold kIn
  rw [List.take_succ_eq_append_getElem hi, List.foldl_append, he]; rfl
theorem foldK_len : ∀ (m o : List Knot), (m.foldl insK o).length ≤ o.length + m.length
  | [], o => by simp
  | k :: m, o => by
    have h := foldK_len m (insK o k)
    have h1 := insK_len k o
    simp only [List.foldl_cons, List.length_cons]
    omega
theorem kIn_len (l : List Bar) (n : Nat) : (kIn l n).length ≤ 2 * l.length := by
  have := foldK_len ((endsL l).take n) []
  have h2 : ((endsL l).take n).length ≤ (endsL l).length := by rw [List.length_take]; omega
  rw [endsL_len] at h2
  simp only [List.length_nil] at this
  unfold kIn
  omega
theorem rends_any (x y s : Int) (hx : -1000000 ≤ x ∧ x ≤ 1000000) (hy : -1000000 ≤ y ∧ y ≤ 1000000) (hs : -10 ≤ s ∧ s ≤ 10) (w : World) :
    Calls Tryz.prog 125 #[.agg #[.int .i64 x, .int .i64 y, .int .i64 s]] w (RV w (.agg #[.int .i64 x, .int .i64 y, .int .i64 (x + s), .int .i64 (y + 1)])) := by
  have hB := (Blk.new w 95 #[.int .i64 x, .int .i64 y, .int .i64 s]).alloc (.cells #[.int .i64 0, .int .i64 0, .int .i64 0, .int .i64 0] 189)
  have hR := Blk.new1 w (.cells #[.int .i64 x, .int .i64 y, .int .i64 s] 95) 189 #[.int .i64 0, .int .i64 0, .int .i64 0, .int .i64 0]
  have fB := hB.facts
  go_enter Tryz.func125, Tryz.ntmps125
  go_wp2
  refine wp_region_ords [0, 2] [(1, false)] [3, 4, 5] (by kernel_rfl) (by kernel_rfl) (fun d _ _ _ _ h => by cases d <;> exact h) ?_
  simp only [List.map_cons, List.map_nil, List.getD_cons_zero, List.getD_cons_succ]
  repeat (go_big_quiet_step (fail))
  refine wpQuiet_nil ?_
  refine wpMid_run rfl (fun K hK => ?_)
  go_simp
  refine (rlower_any _ _ _ _).mono ?_
  rintro e w1 ⟨rfl, hb1⟩
  refine hK _ _ (by (repeat (first | exact bl_refl | assumption | (apply bl_then; assumption) | refine bl_alloc ?_ _ | refine bl_drew ?_ | refine bl_drewN ?_ _))) ?_
  clear hK K
  refine wpMid_nil ?_
  have hB1 := hB.drew.below hb1
  have hR1 := hR.drew.below hb1
  have fB1 := hB1.facts
  go_wp2_with fail
  refine (rupper_any _ _ _ hx hy hs _).mono ?_
  rintro e w2 ⟨rfl, hb2⟩
  have hR2 := hR1.below hb2
  have hb12 : Below w.heap.size w w2 := by (repeat (first | exact bl_refl | assumption | (apply bl_then; assumption) | refine bl_alloc ?_ _ | refine bl_drew ?_ | refine bl_drewN ?_ _))
  go_wp2_with (refine wpList_store_blk hR2 rfl _ _ _ rfl rfl rfl (by rfl) (by kernel_rfl) (by kernel_rfl) ?_; intro w4 hR4 hc4; have fR4 := hR4.facts)
  have hb4 : Below w.heap.size w w4 := ((Chg.of_below hb12).trans (hc4.mono (S' := [w.heap.size + 1]) (by simp))).below (by simp) (Nat.le_refl _)
  refine bodyPost_ret (v := .agg #[.int .i64 x, .int .i64 y, .int .i64 (x + s), .int .i64 (y + 1)]) (by simp [results, Tryz.results125, go_sem, fR4]) rfl ?_
  exact ⟨rfl, by (repeat (first | exact bl_refl | assumption | (apply bl_then; assumption) | refine bl_alloc ?_ _ | refine bl_drew ?_ | refine bl_drewN ?_ _))⟩
end Go.Proofs.YthkjgcldolnjaaaGreatDoor

/- The knots of a net, of the program, walked. Conditions: bars within bounds. -/
namespace Go.Proofs.YthkjgcldolnjaaaGreatDoor
open Go.RowKit Go.ChangeMaps
set_option maxHeartbeats 4000000
set_option maxRecDepth 100000

end Go.Proofs.YthkjgcldolnjaaaGreatDoor

/- The degrees of the knots of a net, of the program, walked. Conditions: bars within bounds. -/
namespace Go.Proofs.YthkjgcldolnjaaaGreatDoor
open Go.RowKit Go.ChangeMaps
set_option maxHeartbeats 4000000
set_option maxRecDepth 100000

section
variable {κ : Type} [DecidableEq κ]
variable {ek : κ → Value} {w : World} {r : Nat} {m : List (κ × Nat × Nat)} {c : Nat} {P : Program} {k e t : TypeId}
end
@[go_sem] theorem mk_map {P : Program} (t : TypeId) (w : World) : (Instr.makeMap t none).run P w = .ok (.map (some w.heap.size)) (w.alloc (.map #[] 0)) := rfl
theorem zero_int (w : World) : (zeroValue 3).run Tryz.prog w = .ok (.int .i64 0) w := by kernel_rfl
/-- how many of the ends are a knot, as a map has it -/
def cntO (n : Nat) : Option Nat := if n = 0 then none else some n
def degN (l : List Bar) (k : Knot) : Nat := (endsL l).count k
end Go.Proofs.YthkjgcldolnjaaaGreatDoor

/- Knots, Degree and Legs of the program, walked. Conditions: the slices read as lists. -/
namespace Go.Proofs.YthkjgcldolnjaaaGreatDoor
open Go.RowKit Go.ChangeMaps
set_option maxHeartbeats 4000000
set_option maxRecDepth 100000

/-- a row of bars .. of knots, and an error -/
def RBE (w : World) (l : List Bar) (n : Int) (e : Ending) (w' : World) : Prop := ∃ v, e = .returned (.tuple #[v, .int .i64 n]) ∧ OwB w.heap.size w' v l ∧ Below w.heap.size w w'
theorem nnet_sl {v : Value} (l : List Bar) (w : World) (h : SlB w v l) : Calls Tryz.prog 140 #[v] w (RV w (.int .i64 (netE l))) := by
  obtain ⟨A, c, rfl, hlc, hcm, h⟩ := h
  exact nnet_any l A c w (Nat.le_trans hlc hcm) h
theorem NetOk.len1 {l : List Bar} (h : NetOk l) : l.length ≤ 10000 := Nat.le_trans h.len (by decide)
def onlyOk {α : Type} (e : Int) (l : List α) : List α := if e = 0 then l else []
end Go.Proofs.YthkjgcldolnjaaaGreatDoor

/- The arms of a knot, which of them are missing, and what turns when a bar is added or taken away: plain. Conditions: a bar's side is 1 or -1. -/
import Derived.Test.YtpompeancmonbaaGreatE04
import Derived.Test.YtpompeancmonbaaGreatE05
namespace Go.Proofs.YtpompeancmonbaaGreat

abbrev Legs := Bool × Bool × Bool × Bool
def armB (k : Knot) : Nat → Bar
  | 0 => (k.1, k.2, -1)
  | 1 => (k.1, k.2, 1)
  | 2 => (k.1 - 1, k.2 - 1, 1)
  | _ => (k.1 + 1, k.2 - 1, -1)
def armK (k : Knot) : Nat → Knot
  | 0 => (k.1 - 1, k.2 + 1)
  | 1 => (k.1 + 1, k.2 + 1)
  | 2 => (k.1 - 1, k.2 - 1)
  | _ => (k.1 + 1, k.2 - 1)
def lowK (b : Bar) : Knot := (b.1, b.2.1)
def uppK (b : Bar) : Knot := (b.1 + b.2.2, b.2.1 + 1)
/-- a bar's side is one of the two -/
def Sided (b : Bar) : Prop := b.2.2 = 1 ∨ b.2.2 = -1
def legsAt (D : List Bar) (k : Knot) : Legs := (decide (armB k 0 ∈ D), decide (armB k 1 ∈ D), decide (armB k 2 ∈ D), decide (armB k 3 ∈ D))
def noLegs : Legs := (false, false, false, false)
def cnt (l : Legs) : Nat := l.1.toNat + l.2.1.toNat + l.2.2.1.toNat + l.2.2.2.toNat
def lget (l : Legs) : Nat → Bool
  | 0 => l.1
  | 1 => l.2.1
  | 2 => l.2.2.1
  | _ => l.2.2.2
def legsO (D : List Bar) (k : Knot) : Option Legs := if legsAt D k = noLegs then none else some (legsAt D k)

theorem cnt_zero {l : Legs} : cnt l = 0 ↔ l = noLegs := by
  obtain ⟨a, b, c, d⟩ := l
  revert a b c d; decide
theorem cnt_le (l : Legs) : cnt l ≤ 4 := by
  obtain ⟨a, b, c, d⟩ := l
  revert a b c d; decide
theorem legsO_getD (D : List Bar) (k : Knot) : (legsO D k).getD noLegs = legsAt D k := by
  unfold legsO
  split
  · rename_i h; simp [h]
  · rfl

theorem armB_end {b : Bar} {k : Knot} {a : Nat} (h : armB k a = b) : k = lowK b ∨ k = uppK b := by
  subst h
  match a with
  | 0 => left; rfl
  | 1 => left; rfl
  | 2 => right; simp [armB, uppK]
  | n + 3 => right; simp only [armB, uppK]; ext <;> simp <;> omega
/-- the bars: b is put in, or taken out -/
def dset (D : List Bar) (b : Bar) (m : Bool) : List Bar := if m then (if b ∈ D then D else D ++ [b]) else D.erase b
theorem dset_mem {D : List Bar} (hn : D.Nodup) (b x : Bar) (m : Bool) : x ∈ dset D b m ↔ if x = b then m = true else x ∈ D := by
  unfold dset
  cases m
  · simp only [Bool.false_eq_true, if_false]
    rw [hn.mem_erase_iff]
    by_cases h : x = b <;> simp [h]
  · simp only [if_true]
    by_cases hb : b ∈ D
    · rw [if_pos hb]
      by_cases h : x = b
      · subst h; simp [hb]
      · simp [h]
    · rw [if_neg hb]
      by_cases h : x = b <;> simp [h]
theorem dset_nodup {D : List Bar} (hn : D.Nodup) (b : Bar) (m : Bool) : (dset D b m).Nodup := by
  unfold dset
  cases m
  · exact hn.erase b
  · simp only [if_true]
    split
    · exact hn
    · rename_i h
      rw [List.nodup_append]
      exact ⟨hn, by simp, fun x hx y hy => by
        obtain rfl : y = b := by simpa using hy
        rintro rfl; exact h hx⟩
/-- the legs of a knot with the arms that are b set to m, the first j of them -/
def lupd (k : Knot) (b : Bar) (m : Bool) (j : Nat) (l : Legs) : Legs :=
  (if 0 < j ∧ armB k 0 = b then m else l.1, if 1 < j ∧ armB k 1 = b then m else l.2.1, if 2 < j ∧ armB k 2 = b then m else l.2.2.1, if 3 < j ∧ armB k 3 = b then m else l.2.2.2)
theorem lupd_zero (k : Knot) (b : Bar) (m : Bool) (l : Legs) : lupd k b m 0 l = l := by simp [lupd]
theorem lupd_four {D : List Bar} (hn : D.Nodup) (k : Knot) (b : Bar) (m : Bool) : lupd k b m 4 (legsAt D k) = legsAt (dset D b m) k := by
  unfold lupd legsAt
  have key : ∀ a, (if armB k a = b then m else decide (armB k a ∈ D)) = decide (armB k a ∈ dset D b m) := by
    intro a
    rw [Bool.eq_iff_iff, decide_eq_true_eq, dset_mem hn]
    by_cases h : armB k a = b <;> simp [h]
  simp only [show (0 : Nat) < 4 by omega, show (1 : Nat) < 4 by omega, show (2 : Nat) < 4 by omega, show (3 : Nat) < 4 by omega, true_and, key]
theorem legsAt_other {D : List Bar} (hn : D.Nodup) {b : Bar} {k : Knot} (h1 : k ≠ lowK b) (h2 : k ≠ uppK b) (m : Bool) : legsAt (dset D b m) k = legsAt D k := by
  unfold legsAt
  have key : ∀ a, decide (armB k a ∈ dset D b m) = decide (armB k a ∈ D) := by
    intro a
    rw [Bool.eq_iff_iff, decide_eq_true_eq, decide_eq_true_eq, dset_mem hn]
    have : armB k a ≠ b := fun e => by rcases armB_end e with h | h <;> contradiction
    simp [this]
  simp only [key]
theorem low_ne_upp (b : Bar) : lowK b ≠ uppK b := by
  intro h
  have := congrArg Prod.snd h
  simp [lowK, uppK] at this
  omega
end Go.Proofs.YtpompeancmonbaaGreat

/- The arms of a knot, walked. Conditions: knots within a million. -/
namespace Go.Proofs.YtpompeancmonbaaGreat
open Go.RowKit
set_option maxHeartbeats 1000000
set_option maxRecDepth 100000

theorem arm_any (x y : Int) (a : Nat) (ha : a < 4) (hx : -1000000 ≤ x ∧ x ≤ 1000000) (hy : -1000000 ≤ y ∧ y ≤ 1000000) (w : World) :
    Calls Tryz.prog 129 #[kv x y, .int .i64 a] w (RV w (.tuple #[bk (armB (x, y) a), kk (armK (x, y) a)])) := by
  obtain rfl | rfl | rfl | rfl : a = 0 ∨ a = 1 ∨ a = 2 ∨ a = 3 := by omega
  · go_enter Tryz.func129, Tryz.ntmps129
    go_wp2
    go_region
    go_wp2
    refine bodyPost_ret (v := .tuple #[.agg #[.int .i64 x, .int .i64 y, .int .i64 (-1)], .agg #[.int .i64 (x - 1), .int .i64 (y + 1)]]) (by simp [results, Tryz.results129, go_sem]) rfl ?_
    exact ⟨rfl, by (repeat (first | exact bl_refl | assumption | (apply bl_then; assumption) | refine bl_alloc ?_ _ | refine bl_drew ?_ | refine bl_drewN ?_ _))⟩
  · go_enter Tryz.func129, Tryz.ntmps129
    go_wp2
    go_region
    go_wp2
    refine bodyPost_ret (v := .tuple #[.agg #[.int .i64 (x), .int .i64 (y), .int .i64 (1)], .agg #[.int .i64 (x + 1), .int .i64 (y + 1)]]) (by simp [results, Tryz.results129, go_sem]) rfl ?_
    exact ⟨rfl, by (repeat (first | exact bl_refl | assumption | (apply bl_then; assumption) | refine bl_alloc ?_ _ | refine bl_drew ?_ | refine bl_drewN ?_ _))⟩
  · go_enter Tryz.func129, Tryz.ntmps129
    go_wp2
    go_region
    go_wp2
    refine bodyPost_ret (v := .tuple #[.agg #[.int .i64 (x - 1), .int .i64 (y - 1), .int .i64 (1)], .agg #[.int .i64 (x - 1), .int .i64 (y - 1)]]) (by simp [results, Tryz.results129, go_sem]) rfl ?_
    exact ⟨rfl, by (repeat (first | exact bl_refl | assumption | (apply bl_then; assumption) | refine bl_alloc ?_ _ | refine bl_drew ?_ | refine bl_drewN ?_ _))⟩
  · go_enter Tryz.func129, Tryz.ntmps129
    go_wp2
    go_region
    go_wp2
    refine bodyPost_ret (v := .tuple #[.agg #[.int .i64 (x + 1), .int .i64 (y - 1), .int .i64 (-1)], .agg #[.int .i64 (x + 1), .int .i64 (y - 1)]]) (by simp [results, Tryz.results129, go_sem]) rfl ?_
    exact ⟨rfl, by (repeat (first | exact bl_refl | assumption | (apply bl_then; assumption) | refine bl_alloc ?_ _ | refine bl_drew ?_ | refine bl_drewN ?_ _))⟩
end Go.Proofs.YtpompeancmonbaaGreat

/- How many arms are missing, and by which one the twine goes on, walked. Conditions: an arm's number is below 4. -/
namespace Go.Proofs.YtpompeancmonbaaGreat
open Go.RowKit
set_option maxHeartbeats 1000000
set_option maxRecDepth 100000

abbrev lb (a b c d : Bool) : Value := .agg #[.bool a, .bool b, .bool c, .bool d]
def lv (l : Legs) : Value := .agg #[.bool l.1, .bool l.2.1, .bool l.2.2.1, .bool l.2.2.2]
@[go_sem] theorem idx_legs (a b c d : Bool) (k : Nat) (hk : k < 4) (w : World) : (Instr.index 106 (.agg #[.bool a, .bool b, .bool c, .bool d]) (.int .i64 (k : Int))).run Tryz.prog w = .ok (.bool (lget (a, b, c, d) k)) w := by
  obtain rfl | rfl | rfl | rfl : k = 0 ∨ k = 1 ∨ k = 2 ∨ k = 3 := by omega
  all_goals kernel_rfl

def cntTo (l : Legs) : Nat → Nat
  | 0 => 0
  | k + 1 => cntTo l k + (lget l k).toNat
theorem cntTo_four (l : Legs) : cntTo l 4 = cnt l := by simp [cntTo, cnt, lget]
theorem cntTo_le (l : Legs) : ∀ k, cntTo l k ≤ k
  | 0 => Nat.le_refl _
  | k + 1 => by
    have := cntTo_le l k
    have h : (lget l k).toNat ≤ 1 := by cases lget l k <;> decide
    simp only [cntTo]; omega

theorem count_any (a b c d : Bool) (w : World) : Calls Tryz.prog 57 #[lb a b c d] w (RV w (.int .i64 (cnt (a, b, c, d)))) := by
  go_enter Tryz.func57, Tryz.ntmps57
  go_wp2
  go_loop [3, 7] (fun n i => ∃ k : Nat, k ≤ 4 ∧ i = .int .i64 k ∧ n = .int .i64 (cntTo (a, b, c, d) k)) (fun _ i => 4 - (intOf i).toNat)
  case atStart => exact ⟨0, by omega, rfl, rfl⟩
  case round =>
    obtain ⟨k, hk, rfl, rfl⟩ := hrel
    have hc := cntTo_le (a, b, c, d) k
    by_cases hlt : k < 4
    · obtain ⟨g, hg⟩ : ∃ g, lget (a, b, c, d) k = g := ⟨_, rfl⟩
      have hs : Hid (cntTo (a, b, c, d) (k + 1) = cntTo (a, b, c, d) k + g.toNat) := by rw [← hg]; rfl
      cases g
      all_goals
        go_wp2
        go_round
        case rel => exact ⟨k + 1, by omega, by go_num, by rw [hs.out]; simp⟩
        case measure => simp [intOf]; omega
    · have hk4 : k = 4 := by omega
      have hf : Hid (cntTo (a, b, c, d) k = cnt (a, b, c, d)) := by rw [hk4]; exact cntTo_four _
      clear hk4
      go_wp2
      go_ret
      exact ⟨ret_int (by rw [hf.out]), by (repeat (first | exact bl_refl | assumption | (apply bl_then; assumption) | refine bl_alloc ?_ _ | refine bl_drew ?_ | refine bl_drewN ?_ _))⟩

def oddL (l : Legs) : Bool := cnt l % 2 == 1
theorem odd_any (a b c d : Bool) (w : World) : Calls Tryz.prog 125 #[lb a b c d] w (RV w (.bool (oddL (a, b, c, d)))) := by
  have hc := cnt_le (a, b, c, d)
  go_enter Tryz.func125, Tryz.ntmps125
  go_wp2_with (go_at_call 57; refine (count_any _ _ _ _ _).mono ?_; rintro e w1 ⟨rfl, hb1⟩)
  go_ret
  refine ⟨ret_bool ?_, by (repeat (first | exact bl_refl | assumption | (apply bl_then; assumption) | refine bl_alloc ?_ _ | refine bl_drew ?_ | refine bl_drewN ?_ _))⟩
  unfold oddL
  rw [Bool.eq_iff_iff]
  simp
  omega

/-- the arm by which the twine goes on that came by another one -/
def onw (l : Legs) (b : Nat) : Nat :=
  if cnt l = 4 then b ^^^ 1 else if l.1 = true ∧ b ≠ 0 then 0 else if l.2.1 = true ∧ b ≠ 1 then 1 else if l.2.2.1 = true ∧ b ≠ 2 then 2 else if l.2.2.2 = true ∧ b ≠ 3 then 3 else b
/-- .. of the arms from one on -/
def onwFrom (l : Legs) (b k : Nat) : Nat :=
  if k ≤ 0 ∧ l.1 = true ∧ b ≠ 0 then 0 else if k ≤ 1 ∧ l.2.1 = true ∧ b ≠ 1 then 1 else if k ≤ 2 ∧ l.2.2.1 = true ∧ b ≠ 2 then 2 else if k ≤ 3 ∧ l.2.2.2 = true ∧ b ≠ 3 then 3 else b
theorem onwFrom_hit {l : Legs} {b k : Nat} (hk : k < 4) (h : lget l k = true) (hb : b ≠ k) : onwFrom l b k = k := by
  obtain rfl | rfl | rfl | rfl : k = 0 ∨ k = 1 ∨ k = 2 ∨ k = 3 := by omega
  all_goals simp [lget] at h; simp [onwFrom, h, hb]
theorem onwFrom_miss {l : Legs} {b k : Nat} (hk : k < 4) (h : ¬ (lget l k = true ∧ b ≠ k)) : onwFrom l b k = onwFrom l b (k + 1) := by
  obtain rfl | rfl | rfl | rfl : k = 0 ∨ k = 1 ∨ k = 2 ∨ k = 3 := by omega
  all_goals
    simp [lget] at h
    simp [onwFrom]
    intro h1 h2
    exact absurd (h h1) h2
theorem xor_one (b : Nat) (hb : b < 4) : bits .xor .i64 (b : Int) 1 = ((b ^^^ 1 : Nat) : Int) := by
  obtain rfl | rfl | rfl | rfl : b = 0 ∨ b = 1 ∨ b = 2 ∨ b = 3 := by omega
  all_goals decide

theorem onward_any (a b c d : Bool) (y : Nat) (hy : y < 4) (w : World) : Calls Tryz.prog 130 #[lb a b c d, .int .i64 y] w (RV w (.int .i64 (onw (a, b, c, d) y))) := by
  have hB := Blk.new w 106 #[.bool a, .bool b, .bool c, .bool d]
  by_cases h4 : cnt (a, b, c, d) = 4
  · have hx := xor_one y hy
    have H : Hid (onw (a, b, c, d) y = y ^^^ 1) := by unfold onw; rw [if_pos h4]; rfl
    have h4' : (((cnt (a, b, c, d) : Nat) : Int) == 4) = true := by rw [h4]; rfl
    clear h4
    go_enter Tryz.func130, Tryz.ntmps130
    go_wp2_with (go_at_call 57; refine (count_any _ _ _ _ _).mono ?_; rintro e w1 ⟨rfl, hb1⟩; (first | replace hB := hB.st0 hb1 | replace hB := hB.st1 hb1 | replace hB := hB.std hb1 | replace hB := hB.std1 hb1 | replace hB := hB.st2 hb1 | replace hB := hB.std2 hb1 | replace hB := hB.st3 hb1); have kB := hB.facts)
    go_ret
    exact ⟨ret_int (by rw [H.out]), by (repeat (first | exact bl_refl | assumption | (apply bl_then; assumption) | refine bl_alloc ?_ _ | refine bl_drew ?_ | refine bl_drewN ?_ _))⟩
  · have H : Hid (onw (a, b, c, d) y = onwFrom (a, b, c, d) y 0) := by unfold onw; rw [if_neg h4]; simp [onwFrom, Hid]
    have h4' : (((cnt (a, b, c, d) : Nat) : Int) == 4) = false := by simp; omega
    clear h4
    go_enter Tryz.func130, Tryz.ntmps130
    go_wp2_with (go_at_call 57; refine (count_any _ _ _ _ _).mono ?_; rintro e w1 ⟨rfl, hb1⟩; (first | replace hB := hB.st0 hb1 | replace hB := hB.st1 hb1 | replace hB := hB.std hb1 | replace hB := hB.std1 hb1 | replace hB := hB.st2 hb1 | replace hB := hB.std2 hb1 | replace hB := hB.st3 hb1); have kB := hB.facts)
    go_loop [13] (fun i => ∃ k : Nat, k ≤ 4 ∧ i = .int .i64 k ∧ Hid (onw (a, b, c, d) y = onwFrom (a, b, c, d) y k)) (fun i => 4 - (intOf i).toNat)
    case atStart => exact ⟨0, by omega, rfl, H⟩
    case round =>
      obtain ⟨k, hk, rfl, H2⟩ := hrel
      by_cases hlt : k < 4
      · obtain ⟨g, hg⟩ : ∃ g, lget (a, b, c, d) k = g := ⟨_, rfl⟩
        by_cases hky : y = k
        · have hky' : ((k : Int) != (y : Int)) = false := by simp [hky]
          have hN : Hid (onwFrom (a, b, c, d) y k = onwFrom (a, b, c, d) y (k + 1)) := onwFrom_miss hlt (by simp [hky])
          clear hky
          cases g
          all_goals
            go_wp2
            go_round
            case rel => exact ⟨k + 1, by omega, by go_num, by rw [H2.out, hN.out]; rfl⟩
            case measure => simp [intOf]; omega
        · have hky' : ((k : Int) != (y : Int)) = true := by simp; omega
          cases g
          · have hN : Hid (onwFrom (a, b, c, d) y k = onwFrom (a, b, c, d) y (k + 1)) := onwFrom_miss hlt (by simp [hg])
            go_wp2
            go_round
            case rel => exact ⟨k + 1, by omega, by go_num, by rw [H2.out, hN.out]; rfl⟩
            case measure => simp [intOf]; omega
          · have hN : Hid (onwFrom (a, b, c, d) y k = k) := onwFrom_hit hlt hg hky
            go_wp2
            go_ret
            exact ⟨ret_int (by rw [H2.out, hN.out]), by (repeat (first | exact bl_refl | assumption | (apply bl_then; assumption) | refine bl_alloc ?_ _ | refine bl_drew ?_ | refine bl_drewN ?_ _))⟩
      · have hk4 : k = 4 := by omega
        have hN : Hid (onwFrom (a, b, c, d) y k = y) := by rw [hk4]; simp [onwFrom, Hid]
        clear hk4
        go_wp2
        go_ret
        exact ⟨ret_int (by rw [H2.out, hN.out]), by (repeat (first | exact bl_refl | assumption | (apply bl_then; assumption) | refine bl_alloc ?_ _ | refine bl_drew ?_ | refine bl_drewN ?_ _))⟩

theorem mends_any (x y s : Int) (hx : -1000000 ≤ x ∧ x ≤ 1000000) (hy : -1000000 ≤ y ∧ y ≤ 1000000) (hs : -10 ≤ s ∧ s ≤ 10) (w : World) :
    Calls Tryz.prog 132 #[.agg #[.int .i64 x, .int .i64 y, .int .i64 s]] w (RV w (.agg #[.int .i64 x, .int .i64 y, .int .i64 (x + s), .int .i64 (y + 1)])) := by
  go_enter Tryz.func132, Tryz.ntmps132
  go_wp2
  refine bodyPost_ret (v := .agg #[.int .i64 x, .int .i64 y, .int .i64 (x + s), .int .i64 (y + 1)]) (by simp [results, Tryz.results132, go_sem]) rfl ?_
  exact ⟨rfl, by (repeat (first | exact bl_refl | assumption | (apply bl_then; assumption) | refine bl_alloc ?_ _ | refine bl_drew ?_ | refine bl_drewN ?_ _))⟩
end Go.Proofs.YtpompeancmonbaaGreat

/- The hole of missing bars in memory; a bar is put in or taken out. Conditions: bars within a million, sides 1 or -1. -/
namespace Go.Proofs.YtpompeancmonbaaGreat
open Go.RowKit Go.ChangeMaps
set_option maxHeartbeats 2000000
set_option maxRecDepth 100000

def yes (b : Bool) : Value := .bool b
/-- below w's heap's size the blocks that are not in S are as they were -/
structure Chg (S : List Nat) (w w' : World) : Prop where
  os : w'.os = w.os
  tape : w'.tape = w.tape
  output : w'.output = w.output
  size : w.heap.size ≤ w'.heap.size
  block : ∀ k, k < w.heap.size → k ∉ S → w'.heap[k]? = w.heap[k]?
section
variable {S : List Nat} {w w' w1 W : World}
theorem Chg.refl : Chg S w w := ⟨rfl, rfl, rfl, Nat.le_refl _, fun _ _ _ => rfl⟩
theorem Chg.of_below (h : Below w.heap.size w w') : Chg S w w' := ⟨h.os, h.tape, h.output, h.size, fun k hk _ => h.block k hk⟩
theorem Chg.trans (h : Chg S w W) (h' : Chg S W w1) : Chg S w w1 :=
  ⟨h'.os.trans h.os, h'.tape.trans h.tape, h'.output.trans h.output, Nat.le_trans h.size h'.size, fun k hk hn => (h'.block k (Nat.lt_of_lt_of_le hk h.size) hn).trans (h.block k hk hn)⟩
theorem Chg.alloc (h : Chg S w W) (o : Obj) : Chg S w (W.alloc o) := h.trans (Chg.of_below (bl_alloc bl_refl o))
theorem Chg.drew (h : Chg S w W) : Chg S w W.drew := h.trans (Chg.of_below (bl_drew bl_refl))
theorem Chg.drewN (h : Chg S w W) (n : Nat) : Chg S w (W.drewN n) := h.trans (Chg.of_below (bl_drewN bl_refl n))
theorem Chg.then_ (hb : Below W.heap.size W w1) (h : Chg S w W) : Chg S w w1 := h.trans (Chg.of_below hb)
theorem Chg.set (h : Chg S w W) {p : Addr} (hp : w.heap.size ≤ p.block) (u : Value) : Chg S w (W.setCell p u) :=
  ⟨h.os, h.tape, h.output, Nat.le_trans h.size (by simp [World.setCell]), fun k hk hn => (Below.heap_setCell W p u k (by omega)).trans (h.block k hk hn)⟩
theorem heap_stb (W : World) {r k : Nat} (o : Obj) (h : k ≠ r) : (setBlock W r o).heap[k]? = W.heap[k]? := by
  simp [ChangeMaps.setBlock, Array.getElem?_setIfInBounds_ne (Ne.symm h)]
theorem Chg.setBlock (h : Chg S w W) {r : Nat} (hr : r ∈ S) (o : Obj) : Chg S w (setBlock W r o) :=
  ⟨h.os, h.tape, h.output, Nat.le_trans h.size (by simp [ChangeMaps.setBlock]), fun k hk hn => (heap_stb W o (fun e => hn (by rw [e]; exact hr))).trans (h.block k hk hn)⟩
theorem Chg.below {B : Nat} (h : Chg S w W) (hS : ∀ k ∈ S, B ≤ k) (hB : B ≤ w.heap.size) : Below B w W :=
  ⟨h.os, h.tape, h.output, h.size, fun k hk => h.block k (by omega) (fun hm => by have := hS k hm; omega)⟩
theorem Chg.mono {S' : List Nat} (h : Chg S w W) (hS : ∀ k ∈ S, k ∈ S') : Chg S' w W := ⟨h.os, h.tape, h.output, h.size, fun k hk hn => h.block k hk (fun hm => hn (hS k hm))⟩
theorem Blk.chg {g : Nat} {t : TypeId} {cs : Array Value} (h : Blk w g t cs) (hc : Chg S w w') (hg : g ∉ S) : Blk w' g t cs := (hc.block g h.lt hg).trans h
end

/-- block h is a hole: its maps, in the blocks rb and rk, hold the bars D and their knots -/
structure HoleAt (w : World) (h rb rk : Nat) (D : List Bar) : Prop where
  blk : Blk w h 122 #[.map (some rb), .map (some rk)]
  bars : ∃ mb cb, MapAt bk yes w rb mb cb ∧ MOk mb cb ∧ (∀ b, mget b mb = if b ∈ D then some true else none) ∧ mb.length = D.length
  knots : ∃ mk ck, MapAt kk lv w rk mk ck ∧ MOk mk ck ∧ ∀ k, mget k mk = legsO D k
  nodup : D.Nodup
  apart : rb ≠ rk

theorem blk_ne_map {κ ν : Type} {ek : κ → Value} {ev : ν → Value} {w : World} {g r : Nat} {t : TypeId} {cs : Array Value} {m : List (κ × ν × Nat)} {c : Nat} (h : Blk w g t cs) (hm : MapAt ek ev w r m c) : g ≠ r := by
  rintro rfl
  unfold MapAt at hm
  unfold Blk at h
  rw [h] at hm
  cases hm
theorem HoleAt.ne {w : World} {h rb rk : Nat} {D : List Bar} (H : HoleAt w h rb rk D) {g : Nat} {t : TypeId} {cs : Array Value} (hg : Blk w g t cs) : g ∉ [rb, rk] := by
  obtain ⟨mb, cb, hb, _⟩ := H.bars
  obtain ⟨mk, ck, hk, _⟩ := H.knots
  simp [blk_ne_map hg hb, blk_ne_map hg hk]
theorem HoleAt.below {w w' : World} {h rb rk : Nat} {D : List Bar} (H : HoleAt w h rb rk D) (hb : Below w.heap.size w w') : HoleAt w' h rb rk D := by
  obtain ⟨h1, ⟨mb, cb, h2, h3⟩, ⟨mk, ck, h4, h5⟩, h6, h7⟩ := H
  exact ⟨h1.below hb, ⟨mb, cb, h2.below hb, h3⟩, ⟨mk, ck, h4.below hb, h5⟩, h6, h7⟩

/-! ## map operations with the world behind them under a name -/
section
variable {κ ν : Type} [DecidableEq κ] {ek : κ → Value} {ev : ν → Value} {w : World} {r : Nat} {m : List (κ × ν × Nat)} {c : Nat} {P : Program} {k e t : TypeId}
theorem MapAt.put_ (h : MapAt ek ev w r m c) (K : KeyLaw P k ek) (ht : P.underlying t = some (.map k e)) (a : κ) (v : ν) :
    ∃ w', (Instr.mapUpdate t (.map (some r)) (ek a) (ev v)).run P w = .ok () w' ∧ MapAt ek ev w' r (mput a v c m) (mclk a m c) ∧ Chg [r] w w' := by
  refine ⟨_, h.put K ht a v, ?_, Chg.refl.setBlock (by simp) _⟩
  unfold MapAt setBlock
  simp [h.lt]
theorem MapAt.del_ (h : MapAt ek ev w r m c) (K : KeyLaw P k ek) (ht : P.underlying t = some (.map k e)) (a : κ) (t2 : TypeId) :
    ∃ w', (∀ ty, (Builtin.delete_ #[t, t2] ty #[.map (some r), ek a]).run P w = .ok (.tuple #[]) w') ∧ MapAt ek ev w' r (mdel a m) c ∧ Chg [r] w w' := by
  refine ⟨_, fun ty => h.del K ht a ty t2, ?_, Chg.refl.setBlock (by simp) _⟩
  unfold MapAt setBlock
  simp [h.lt]
end
theorem MapAt.chg {κ ν : Type} {ek : κ → Value} {ev : ν → Value} {w w' : World} {r : Nat} {m : List (κ × ν × Nat)} {c : Nat} {S : List Nat} (h : MapAt ek ev w r m c) (hc : Chg S w w') (hr : r ∉ S) : MapAt ek ev w' r m c := (hc.block r h.lt hr).trans h

/-! ## what stands while a bar is put in -/
structure Ctx (w W : World) (h rb rk b0 bK : Nat) (x y s kx ky : Int) (mb : List (Bar × Bool × Nat)) (cb : Nat) (mk : List (Knot × Legs × Nat)) (ck : Nat) : Prop where
  hole : Blk W h 122 #[.map (some rb), .map (some rk)]
  box : Blk W b0 46 #[.int .i64 x, .int .i64 y, .int .i64 s]
  kbox : Blk W bK 32 #[.int .i64 kx, .int .i64 ky]
  mapB : MapAt bk yes W rb mb cb
  mapK : MapAt kk lv W rk mk ck
  chg : Chg [rb, rk] w W
section
variable {w W W' w1 : World} {h rb rk b0 bK : Nat} {x y s kx ky : Int} {mb : List (Bar × Bool × Nat)} {cb : Nat} {mk : List (Knot × Legs × Nat)} {ck : Nat}
theorem Ctx.below (H : Ctx w W h rb rk b0 bK x y s kx ky mb cb mk ck) (hb : Below W.heap.size W w1) : Ctx w w1 h rb rk b0 bK x y s kx ky mb cb mk ck :=
  ⟨H.hole.below hb, H.box.below hb, H.kbox.below hb, H.mapB.below hb, H.mapK.below hb, H.chg.trans (Chg.of_below hb)⟩
theorem Ctx.set (H : Ctx w W h rb rk b0 bK x y s kx ky mb cb mk ck) {p : Addr} {t : TypeId} {cs : Array Value} (hp : Blk W p.block t cs) (hw : w.heap.size ≤ p.block) (ht1 : t ≠ 122) (ht2 : t ≠ 46) (ht3 : t ≠ 32) (u : Value) :
    Ctx w (W.setCell p u) h rb rk b0 bK x y s kx ky mb cb mk ck := by
  have far : ∀ {g : Nat} {t' : TypeId} {cs' : Array Value}, Blk W g t' cs' → t ≠ t' → g ≠ p.block := fun hg hne e => by
    unfold Blk at hg hp
    rw [e, hp] at hg
    cases hg
    exact hne rfl
  exact ⟨H.hole.far (far H.hole ht1) u, H.box.far (far H.box ht2) u, H.kbox.far (far H.kbox ht3) u, H.mapB.set (Ne.symm (blk_ne_map hp H.mapB)) u, H.mapK.set (Ne.symm (blk_ne_map hp H.mapK)) u, H.chg.set hw u⟩
/-- the map of the knots has turned -/
theorem Ctx.knots (H : Ctx w W h rb rk b0 bK x y s kx ky mb cb mk ck) (hap : rb ≠ rk) (hc : Chg [rk] W w1) {mk' : List (Knot × Legs × Nat)} {ck' : Nat} (hm : MapAt kk lv w1 rk mk' ck') : Ctx w w1 h rb rk b0 bK x y s kx ky mb cb mk' ck' :=
  ⟨H.hole.chg hc (by simp [blk_ne_map H.hole H.mapK]), H.box.chg hc (by simp [blk_ne_map H.box H.mapK]), H.kbox.chg hc (by simp [blk_ne_map H.kbox H.mapK]), H.mapB.chg hc (by simp [hap]), hm, H.chg.trans (hc.mono (by simp))⟩
theorem Ctx.drew (H : Ctx w W h rb rk b0 bK x y s kx ky mb cb mk ck) : Ctx w W.drew h rb rk b0 bK x y s kx ky mb cb mk ck := H.below (bl_drew bl_refl)
end
end Go.Proofs.YtpompeancmonbaaGreat

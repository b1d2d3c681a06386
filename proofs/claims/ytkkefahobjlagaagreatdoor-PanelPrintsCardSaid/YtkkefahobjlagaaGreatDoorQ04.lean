/- The program's check of a net, walked. Conditions: the net's slice reads as a list. -/
import Derived.Test.YtkkefahobjlagaaGreatDoorQ02
import Derived.Test.YtkkefahobjlagaaGreatDoorQ03
namespace Go.Proofs.YtkkefahobjlagaaGreatDoor
open Go.RowKit
set_option maxHeartbeats 1000000
set_option maxRecDepth 100000
theorem netGo_f {l : List Bar} {k : Nat} (h : k < l.length) (h0 : 0 < k) : netGo (prevB l k) (l.drop k) =
  if firstI [barE l[k].1 l[k].2.1 l[k].2.2, whenI (decide (0 ≤ barCmp (l[k - 1]'(by omega)).1 (l[k - 1]'(by omega)).2.1 (l[k - 1]'(by omega)).2.2 l[k].1 l[k].2.1 l[k].2.2)) 11] = 0 then netGo (prevB l (k + 1)) (l.drop (k + 1))
  else firstI [barE l[k].1 l[k].2.1 l[k].2.2, whenI (decide (0 ≤ barCmp (l[k - 1]'(by omega)).1 (l[k - 1]'(by omega)).2.1 (l[k - 1]'(by omega)).2.2 l[k].1 l[k].2.1 l[k].2.2)) 11] := by
 rw [barCmp_lt]
 by_cases hE : barE l[k].1 l[k].2.1 l[k].2.2 = 0
 ·cases hl : barLt (l[k - 1]'(by omega)).1 (l[k - 1]'(by omega)).2.1 (l[k - 1]'(by omega)).2.2 l[k].1 l[k].2.1 l[k].2.2
  ·rw [netGo_late h h0 hE hl]; simp [firstI, hE, whenI]
  ·rw [netGo_next h h0 hE hl]; simp [firstI, hE, whenI]
 ·rw [netGo_err h hE]; simp [firstI, hE]
theorem netGo_f0 {l : List Bar} {k : Nat} (h : k < l.length) (h0 : ¬ 0 < k) : netGo (prevB l k) (l.drop k) =
  if firstI [barE l[k].1 l[k].2.1 l[k].2.2, whenI false 11] = 0 then netGo (prevB l (k + 1)) (l.drop (k + 1)) else firstI [barE l[k].1 l[k].2.1 l[k].2.2, whenI false 11] := by
 obtain rfl : k = 0 := by omega
 by_cases hE : barE l[0].1 l[0].2.1 l[0].2.2 = 0
 ·rw [netGo_first h hE]; simp [firstI, hE, whenI]
 ·rw [netGo_err h hE]; simp [firstI, hE]
theorem nnet_any (l : List Bar) (A : Option Addr) (c : Nat) (w : World) (hl : l.length ≤ maxLen) (h : Rd bc 3 w A l) :
  Calls Tryz.prog 77 #[.slice A l.length c] w (RV w (.int .i64 (netE l))) := by
 unfold maxLen at hl
 by_cases hbig : 4096 < l.length
 ·have HB : Hid (netE l = 5) := by unfold netE; rw [if_pos hbig]; rfl
  go_enter Tryz.func77, Tryz.ntmps77
  go_wp2
  go_ret
  exact ⟨ret_int (by rw [HB.out]), by (repeat first|exact J0|assumption|(apply J1;assumption)|apply J2|apply J3|apply J4)⟩
 ·have HB : Hid (netE l = netGo none l) := by unfold netE; rw [if_neg hbig]; rfl
  go_enter Tryz.func77, Tryz.ntmps77
  go_wp2
  go_loopw [11] (fun i wr => ∃ k : Nat, k ≤ l.length ∧ i = .int .i64 k ∧ Hid (netE l = netGo (prevB l k) (l.drop k)) ∧ Below w.heap.size w wr) (fun i _ => l.length - (intOf i).toNat)
  case atStart => exact ⟨0, Nat.zero_le _, rfl, HB, bl_refl⟩
  case round =>
   obtain ⟨k, hk, rfl, H, hbw⟩ := hrel
   by_cases hlt : k < l.length
   ·have hr := h.below hbw
    obtain ⟨b, off, rfl, hb, e0, e1, e2⟩ := hr.bar hlt
    by_cases h0 : 0 < k
    ·have hk1 : 1 ≤ k := h0
     have f2 := hr.barAt (k := k - 1) (by omega)
     have f3 := (hr.alloc (.cells #[.int .i64 l[k].1, .int .i64 l[k].2.1, .int .i64 l[k].2.2] 77)).barAt (k := k - 1) (by omega)
     have hB := Blk.new wr 77 #[.int .i64 l[k].1, .int .i64 l[k].2.1, .int .i64 l[k].2.2]
     have HN := Lib.hid (netGo_f hlt h0)
     go_wp2
     refine wp_region_ords [0, 2, 3] [(1, false), (4, false), (5, true), (6, true), (7, true), (8, true), (9, true), (10, true), (11, false)] [12, 13, 14, 15, 16, 17, 18] (by kernel_rfl) (by kernel_rfl) (fun d _ _ _ _ h => by cases d <;> exact h) ?_
     simp only [List.map_cons, List.map_nil, List.getD_cons_zero, List.getD_cons_succ]
     repeat (go_big_quiet_step (fail))
     refine wpQuiet_nil ?_
     refine wpMid_run rfl (fun K hK => ?_)
     go_simp
     refine (nbar_any _ _ _ _).mono ?_
     rintro e w1 ⟨rfl, hb1⟩
     refine hK _ _ (by (repeat first|exact J0|assumption|(apply J1;assumption)|apply J2|apply J3|apply J4)) ?_
     clear hK K
     (first | replace hB := hB.st0 hb1 | replace hB := hB.st1 hb1 | replace hB := hB.std hb1 | replace hB := hB.std1 hb1 | replace hB := hB.st2 hb1 | replace hB := hB.std2 hb1 | replace hB := hB.st3 hb1)
     have kB := hB.facts
     (first | replace hr := hr.st0 hb1 | replace hr := hr.st1 hb1 | replace hr := hr.std hb1 | replace hr := hr.std1 hb1 | replace hr := hr.st2 hb1 | replace hr := hr.std2 hb1 | replace hr := hr.st3 hb1)
     have f4 := hr.barAt (k := k - 1) (by omega)
     have hmx : (if (1 : Int) < (k : Int) then (k : Int) - 1 else 0) = (k : Int) - 1 := by split <;> omega
     refine wpMid_run rfl (fun K hK => ?_)
     go_simp
     refine hK _ _ (by (repeat first|exact J0|assumption|(apply J1;assumption)|apply J2|apply J3|apply J4)) ?_
     clear hK K
     refine wpMid_take rfl ?_
     intro K hK
     go_big_quiet_op
     go_big_quiet_on
     refine wpMid_take rfl ?_
     intro K hK
     go_big_quiet_op
     go_big_quiet_on
     refine wpMid_take rfl ?_
     intro K hK
     go_big_quiet_op
     go_big_quiet_on
     refine wpMid_take rfl ?_
     intro K hK
     go_big_quiet_op
     go_big_quiet_on
     refine wpMid_take rfl ?_
     intro K hK
     go_big_quiet_op
     go_big_quiet_on
     refine wpMid_take rfl ?_
     intro K hK
     go_big_quiet_op
     go_big_quiet_on
     refine wpMid_run rfl (fun K hK => ?_)
     go_simp
     refine hK _ _ (by (repeat first|exact J0|assumption|(apply J1;assumption)|apply J2|apply J3|apply J4)) ?_
     clear hK K
     refine wpMid_nil ?_
     go_wp2_with (first | (go_at_call 136; refine (ncompare_any _ _ _ _ _ _ _).mono ?_; rintro e w1 ⟨rfl, hb1⟩) | (go_at_call 135; refine (nwhen_any _ _ _).mono ?_; rintro e w1 ⟨rfl, hb1⟩) | (go_at_call 76; go_must (refine (nfirst_any [barE l[k].1 l[k].2.1 l[k].2.2, whenI (decide (0 ≤ barCmp (l[k - 1]'(by omega)).1 (l[k - 1]'(by omega)).2.1 (l[k - 1]'(by omega)).2.2 l[k].1 l[k].2.1 l[k].2.2)) 11] _ _ _ (by simp [maxLen]) (Rd.ints2 (by simp) (by go_simp) (by go_simp))).mono ?_); rintro e w4 ⟨rfl, hb4⟩))
     ·have hne : (firstI [barE l[k].1 l[k].2.1 l[k].2.2, whenI (decide (0 ≤ barCmp (l[k - 1]'(by omega)).1 (l[k - 1]'(by omega)).2.1 (l[k - 1]'(by omega)).2.2 l[k].1 l[k].2.1 l[k].2.2)) 11] != 0) = true := by assumption
      go_ret
      exact ⟨ret_int (by rw [H.out, HN.out, if_neg (by simpa using hne)]), by (repeat first|exact J0|assumption|(apply J1;assumption)|apply J2|apply J3|apply J4)⟩
     ·have hne : (firstI [barE l[k].1 l[k].2.1 l[k].2.2, whenI (decide (0 ≤ barCmp (l[k - 1]'(by omega)).1 (l[k - 1]'(by omega)).2.1 (l[k - 1]'(by omega)).2.2 l[k].1 l[k].2.1 l[k].2.2)) 11] != 0) = false := by assumption
      go_roundw
      case rel => exact ⟨k + 1, by omega, by go_num, by rw [H.out, HN.out, if_pos (by simpa using hne)]; rfl, by (repeat first|exact J0|assumption|(apply J1;assumption)|apply J2|apply J3|apply J4)⟩
      case measure => simp [intOf]; omega
    ·have HN := Lib.hid (netGo_f0 hlt h0)
     have hB := Blk.new wr 77 #[.int .i64 l[k].1, .int .i64 l[k].2.1, .int .i64 l[k].2.2]
     have h0' : decide (0 < k) = false := by simpa using h0
     go_wp2
     refine wp_region_ords [0, 2, 3] [(1, false), (4, false), (5, true), (6, true), (7, true), (8, true), (9, true), (10, true), (11, false)] [12, 13, 14, 15, 16, 17, 18] (by kernel_rfl) (by kernel_rfl) (fun d _ _ _ _ h => by cases d <;> exact h) ?_
     simp only [List.map_cons, List.map_nil, List.getD_cons_zero, List.getD_cons_succ]
     repeat (go_big_quiet_step (fail))
     refine wpQuiet_nil ?_
     refine wpMid_run rfl (fun K hK => ?_)
     go_simp
     refine (nbar_any _ _ _ _).mono ?_
     rintro e w1 ⟨rfl, hb1⟩
     refine hK _ _ (by (repeat first|exact J0|assumption|(apply J1;assumption)|apply J2|apply J3|apply J4)) ?_
     clear hK K
     (first | replace hB := hB.st0 hb1 | replace hB := hB.st1 hb1 | replace hB := hB.std hb1 | replace hB := hB.std1 hb1 | replace hB := hB.st2 hb1 | replace hB := hB.std2 hb1 | replace hB := hB.st3 hb1)
     have kB := hB.facts
     refine wpMid_run rfl (fun K hK => ?_)
     go_simp
     refine hK _ _ (by (repeat first|exact J0|assumption|(apply J1;assumption)|apply J2|apply J3|apply J4)) ?_
     clear hK K
     refine wpMid_skipT (by kernel_rfl) ?_
     intro K hK
     simp only [Act.put, List.setIfInBounds_toArray, List.set_cons_zero, List.set_cons_succ]
     refine hK _ ?_
     clear hK K
     refine wpMid_skipT (by kernel_rfl) ?_
     intro K hK
     simp only [Act.put, List.setIfInBounds_toArray, List.set_cons_zero, List.set_cons_succ]
     refine hK _ ?_
     clear hK K
     refine wpMid_skipT (by kernel_rfl) ?_
     intro K hK
     simp only [Act.put, List.setIfInBounds_toArray, List.set_cons_zero, List.set_cons_succ]
     refine hK _ ?_
     clear hK K
     refine wpMid_skipT (by kernel_rfl) ?_
     intro K hK
     simp only [Act.put, List.setIfInBounds_toArray, List.set_cons_zero, List.set_cons_succ]
     refine hK _ ?_
     clear hK K
     refine wpMid_skipT (by kernel_rfl) ?_
     intro K hK
     simp only [Act.put, List.setIfInBounds_toArray, List.set_cons_zero, List.set_cons_succ]
     refine hK _ ?_
     clear hK K
     refine wpMid_skipT (by kernel_rfl) ?_
     intro K hK
     simp only [Act.put, List.setIfInBounds_toArray, List.set_cons_zero, List.set_cons_succ]
     refine hK _ ?_
     clear hK K
     refine wpMid_skipF (by kernel_rfl) ?_
     intro K hK
     simp only [Act.put, List.setIfInBounds_toArray, List.set_cons_zero, List.set_cons_succ]
     refine hK _ ?_
     clear hK K
     refine wpMid_nil ?_
     go_wp2_with (first | (go_at_call 135; refine (nwhen_any _ _ _).mono ?_; rintro e w1 ⟨rfl, hb1⟩) | (go_at_call 76; go_must (refine (nfirst_any [barE l[k].1 l[k].2.1 l[k].2.2, whenI false 11] _ _ _ (by simp [maxLen]) (Rd.ints2 (by simp) (by go_simp) (by go_simp))).mono ?_); rintro e w4 ⟨rfl, hb4⟩))
     ·have hne : (firstI [barE l[k].1 l[k].2.1 l[k].2.2, whenI false 11] != 0) = true := by assumption
      go_ret
      exact ⟨ret_int (by rw [H.out, HN.out, if_neg (by simpa using hne)]), by (repeat first|exact J0|assumption|(apply J1;assumption)|apply J2|apply J3|apply J4)⟩
     ·have hne : (firstI [barE l[k].1 l[k].2.1 l[k].2.2, whenI false 11] != 0) = false := by assumption
      go_roundw
      case rel => exact ⟨k + 1, by omega, by go_num, by rw [H.out, HN.out, if_pos (by simpa using hne)]; rfl, by (repeat first|exact J0|assumption|(apply J1;assumption)|apply J2|apply J3|apply J4)⟩
      case measure => simp [intOf]; omega
   ·have hkl : k = l.length := by omega
    go_wp2
    go_ret
    refine ⟨ret_int ?_, by (repeat first|exact J0|assumption|(apply J1;assumption)|apply J2|apply J3|apply J4)⟩
    rw [H.out, hkl, List.drop_length]; rfl
end Go.Proofs.YtkkefahobjlagaaGreatDoor
namespace Go.Proofs.YtkkefahobjlagaaGreatDoor
open Go.RowKit
set_option maxHeartbeats 400000
def bk (b : Bar) : Value := .agg #[.int .i64 b.1, .int .i64 b.2.1, .int .i64 b.2.2]
def beqB (x y s x' y' s' : Int) : Bool := decide ((x, y, s) = (x', y', s'))
def beqK (x y x' y' : Int) : Bool := decide ((x, y) = (x', y'))
theorem eqin_bar (d : Nat) (x y s x' y' s' : Int) (w : World) : (Op.equalIn (d + 2) 77 (.agg #[.int .i64 x, .int .i64 y, .int .i64 s]) (.agg #[.int .i64 x', .int .i64 y', .int .i64 s'])).run Tryz.prog w = .ok (beqB x y s x' y' s') w := by
 rw [run_equalIn_struct w (d + 1) 77 _ _ (by kernel_rfl) (by kernel_rfl)]
 unfold beqB
 by_cases h1 : x = x' <;> by_cases h2 : y = y' <;> by_cases h3 : s = s' <;> simp [go_sem, h1, h2, h3]
theorem eqin_knot (d : Nat) (x y x' y' : Int) (w : World) : (Op.equalIn (d + 2) 40 (.agg #[.int .i64 x, .int .i64 y]) (.agg #[.int .i64 x', .int .i64 y'])).run Tryz.prog w = .ok (beqK x y x' y') w := by
 rw [run_equalIn_struct w (d + 1) 40 _ _ (by kernel_rfl) (by kernel_rfl)]
 unfold beqK
 by_cases h1 : x = x' <;> by_cases h2 : y = y' <;> simp [go_sem, h1, h2]
@[go_sem high] theorem eql_bar (x y s x' y' s' : Int) (w : World) : (binOp .eql 77 (.agg #[.int .i64 x, .int .i64 y, .int .i64 s]) (.agg #[.int .i64 x', .int .i64 y', .int .i64 s'])).run Tryz.prog w = .ok (.bool (beqB x y s x' y' s')) w := by
 simp only [binOp]
 simp [Op.equal, Op.maxDepth, eqin_bar 9998]
@[go_sem high] theorem eql_knot (x y x' y' : Int) (w : World) : (binOp .eql 40 (.agg #[.int .i64 x, .int .i64 y]) (.agg #[.int .i64 x', .int .i64 y'])).run Tryz.prog w = .ok (.bool (beqK x y x' y')) w := by
 simp only [binOp]
 simp [Op.equal, Op.maxDepth, eqin_knot 9998]
@[go_sem high] theorem neq_bar (x y s x' y' s' : Int) (w : World) : (binOp .neq 77 (.agg #[.int .i64 x, .int .i64 y, .int .i64 s]) (.agg #[.int .i64 x', .int .i64 y', .int .i64 s'])).run Tryz.prog w = .ok (.bool (!beqB x y s x' y' s')) w := by
 simp only [binOp]
 simp [Op.equal, Op.maxDepth, eqin_bar 9998]
@[go_sem high] theorem neq_knot (x y x' y' : Int) (w : World) : (binOp .neq 40 (.agg #[.int .i64 x, .int .i64 y]) (.agg #[.int .i64 x', .int .i64 y'])).run Tryz.prog w = .ok (.bool (!beqK x y x' y')) w := by
 simp only [binOp]
 simp [Op.equal, Op.maxDepth, eqin_knot 9998]
end Go.Proofs.YtkkefahobjlagaaGreatDoor
namespace Go.Proofs.YtkkefahobjlagaaGreatDoor
abbrev Legs := Bool × Bool × Bool × Bool
def armB (k : Knot) : Nat → Bar
 | 0 => (k.1, k.2, -1)
 | 1 => (k.1, k.2, 1)
 | 2 => (k.1 - 1, k.2 - 1, 1)
 | _ => (k.1 + 1, k.2 - 1, -1)
def lowK (b : Bar) : Knot := (b.1, b.2.1)
def uppK (b : Bar) : Knot := (b.1 + b.2.2, b.2.1 + 1)
def Sided (b : Bar) : Prop := b.2.2 = 1 ∨ b.2.2 = -1
theorem low_ne_upp (b : Bar) : lowK b ≠ uppK b := by
 intro h
 have := congrArg Prod.snd h
 simp [lowK, uppK] at this
 omega
end Go.Proofs.YtkkefahobjlagaaGreatDoor
namespace Go.Proofs.YtkkefahobjlagaaGreatDoor
open Go.RowKit Go.ChangeMaps
set_option maxHeartbeats 2000000
set_option maxRecDepth 100000
structure Chg (S : List Nat) (w w' : World) : Prop where
 os : w'.os = w.os
 tape : w'.tape = w.tape
 output : w'.output = w.output
 size : w.heap.size ≤ w'.heap.size
 block : ∀ k, k < w.heap.size → k ∉ S → w'.heap[k]? = w.heap[k]?
section
variable {S : List Nat} {w w' w1 W : World}
theorem Chg.refl : Chg S w w := ⟨rfl, rfl, rfl, Nat.le_refl _, fun _ _ _ => rfl⟩
theorem Chg.of_below (h : Below w.heap.size w w') : Chg S w w' := ⟨h.os, h.tape, h.output, h.size, fun k hk _ => h.block k hk⟩
theorem Chg.trans (h : Chg S w W) (h' : Chg S W w1) : Chg S w w1 :=
 ⟨h'.os.trans h.os, h'.tape.trans h.tape, h'.output.trans h.output, Nat.le_trans h.size h'.size, fun k hk hn => (h'.block k (Nat.lt_of_lt_of_le hk h.size) hn).trans (h.block k hk hn)⟩
theorem Chg.alloc (h : Chg S w W) (o : Obj) : Chg S w (W.alloc o) := h.trans (Chg.of_below (bl_alloc bl_refl o))
theorem Chg.drew (h : Chg S w W) : Chg S w W.drew := h.trans (Chg.of_below (bl_drew bl_refl))
theorem Chg.drewN (h : Chg S w W) (n : Nat) : Chg S w (W.drewN n) := h.trans (Chg.of_below (bl_drewN bl_refl n))
theorem heap_stb (W : World) {r k : Nat} (o : Obj) (h : k ≠ r) : (setBlock W r o).heap[k]? = W.heap[k]? := by
 simp [ChangeMaps.setBlock, Array.getElem?_setIfInBounds_ne (Ne.symm h)]
theorem Chg.setBlock (h : Chg S w W) {r : Nat} (hr : r ∈ S) (o : Obj) : Chg S w (setBlock W r o) :=
 ⟨h.os, h.tape, h.output, Nat.le_trans h.size (by simp [ChangeMaps.setBlock]), fun k hk hn => (heap_stb W o (fun e => hn (by rw [e]; exact hr))).trans (h.block k hk hn)⟩
theorem Chg.below {B : Nat} (h : Chg S w W) (hS : ∀ k ∈ S, B ≤ k) (hB : B ≤ w.heap.size) : Below B w W :=
 ⟨h.os, h.tape, h.output, h.size, fun k hk => h.block k (by omega) (fun hm => by have := hS k hm; omega)⟩
theorem Chg.mono {S' : List Nat} (h : Chg S w W) (hS : ∀ k ∈ S, k ∈ S') : Chg S' w W := ⟨h.os, h.tape, h.output, h.size, fun k hk hn => h.block k hk (fun hm => hn (hS k hm))⟩
theorem Blk.chg {g : Nat} {t : TypeId} {cs : Array Value} (h : Blk w g t cs) (hc : Chg S w w') (hg : g ∉ S) : Blk w' g t cs := (hc.block g h.lt hg).trans h
end
end Go.Proofs.YtkkefahobjlagaaGreatDoor

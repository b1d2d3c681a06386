/- Maps as lists of entries: what a look-up, a store, a delete and the length of a map come to, for keys that are told apart by value. Conditions: 'KeyLaw' of the key's type. -/
import Derived.Test.YtpcgeihemkhkjaaGreatDoorS01
import Derived.ChangeMaps4
import Derived.MapKept
import Derived.WideKeyEntry
import Derived.Test.YtpcgeihemkhkjaaGreatDoorS02
import Derived.Laws.OwnMore
import Derived.Laws.AppendOwnNone
import Derived.OwnWalk
namespace Go.Proofs.YtpcgeihemkhkjaaGreatDoor
open Go.RowKit Go.ChangeMaps
def Z3d {κ ν : Type} (m : List (κ × ν × Nat)) : List κ := m.map (·.1)
structure MOk {κ ν : Type} (m : List (κ × ν × Nat)) (c : Nat) : Prop where
 keys : (Z3d m).Nodup
 stamps : (m.map (·.2.2)).Nodup
 below : ∀ x ∈ m, x.2.2 < c
theorem MOk.nil_ {κ ν : Type} : MOk ([] : List (κ × ν × Nat)) 0 := ⟨by simp [Z3d], by simp, by simp⟩
section
variable {κ ν : Type} [DecidableEq κ]
def mget (a : κ) : List (κ × ν × Nat) → Option ν
 | [] => none
 | x :: r => if a = x.1 then some x.2.1 else mget a r
def mput (a : κ) (v : ν) (c : Nat) : List (κ × ν × Nat) → List (κ × ν × Nat)
 | [] => [(a, v, c)]
 | x :: r => if a = x.1 then (a, v, x.2.2) :: r else x :: mput a v c r
def mclk (a : κ) (m : List (κ × ν × Nat)) (c : Nat) : Nat := if a ∈ Z3d m then c else c + 1
theorem Z3e (a x : κ) (v : ν) (c : Nat) : ∀ m : List (κ × ν × Nat), mget x (mput a v c m) = if x = a then some v else mget x m
 | [] => by simp [mput, mget]
 | y :: r => by
  unfold mput; by_cases h : a = y.1
  ·subst h
   simp only [if_true, mget]; split <;> rfl
  ·rw [if_neg h]
   simp only [mget, Z3e a x v c r]; by_cases h1 : x = y.1
   ·subst h1; rw [if_pos rfl, if_pos rfl, if_neg (Ne.symm h)]
   ·rw [if_neg h1, if_neg h1]
theorem Z3f (a : κ) (v : ν) (c : Nat) : ∀ m : List (κ × ν × Nat), Z3d (mput a v c m) = if a ∈ Z3d m then Z3d m else Z3d m ++ [a]
 | [] => by simp [mput, Z3d]
 | y :: r => by
  unfold mput; by_cases h : a = y.1
  ·simp [h, Z3d]
  ·rw [if_neg h]
   have ih := Z3f a v c r
   have e : (a ∈ Z3d (y :: r)) = (a ∈ Z3d r) := by simp [Z3d, h]
   show y.1 :: Z3d (mput a v c r) = if a ∈ Z3d (y :: r) then y.1 :: Z3d r else y.1 :: Z3d r ++ [a]
   rw [ih]; by_cases h2 : a ∈ Z3d r
   ·rw [if_pos h2, if_pos (by rw [e]; exact h2)]
   ·rw [if_neg h2, if_neg (by rw [e]; exact h2)]; rfl
theorem Z3g (a : κ) (v : ν) (c : Nat) : ∀ m : List (κ × ν × Nat), (mput a v c m).map (·.2.2) = if a ∈ Z3d m then m.map (·.2.2) else m.map (·.2.2) ++ [c]
 | [] => by simp [mput, Z3d]
 | y :: r => by
  unfold mput; by_cases h : a = y.1
  ·simp [h, Z3d]
  ·rw [if_neg h]
   have ih := Z3g a v c r
   have e : (a ∈ Z3d (y :: r)) = (a ∈ Z3d r) := by simp [Z3d, h]
   rw [List.map_cons, ih]; by_cases h2 : a ∈ Z3d r
   ·rw [if_pos h2, if_pos (by rw [e]; exact h2)]; rfl
   ·rw [if_neg h2, if_neg (by rw [e]; exact h2)]; rfl
theorem MOk.put {m : List (κ × ν × Nat)} {c : Nat} (h : MOk m c) (a : κ) (v : ν) : MOk (mput a v c m) (mclk a m c) := by
 refine ⟨?_, ?_, ?_⟩
 ·rw [Z3f]
  split
  ·exact h.keys
  ·rename_i hn
   rw [List.nodup_append]
   exact ⟨h.keys, by simp, fun x hx y hy => by
    obtain rfl : y = a := by simpa using hy
    rintro rfl; exact hn hx⟩
 ·rw [Z3g]
  split
  ·exact h.stamps
  ·rw [List.nodup_append]
   refine ⟨h.stamps, by simp, fun x hx y hy => ?_⟩
   obtain rfl : y = c := by simpa using hy
   rintro rfl
   obtain ⟨z, hz, e⟩ := List.mem_map.1 hx
   have := h.below z hz
   omega
 ·intro x hx
  have hm : x.2.2 ∈ (mput a v c m).map (·.2.2) := List.mem_map_of_mem hx
  rw [Z3g] at hm; unfold mclk; split at hm
  ·rename_i hk
   rw [if_pos hk]; obtain ⟨z, hz, e⟩ := List.mem_map.1 hm
   rw [← e]; exact h.below z hz
  ·rename_i hk
   rw [if_neg hk]; rcases List.mem_append.1 hm with hm | hm
   ·obtain ⟨z, hz, e⟩ := List.mem_map.1 hm
    have := h.below z hz
    omega
   ·have : x.2.2 = c := by simpa using hm
    omega
end
section
variable {κ ν : Type}
def ment (ek : κ → Value) (ev : ν → Value) (x : κ × ν × Nat) : MapEntry := { key := ek x.1, val := ev x.2.1, born := x.2.2 }
def Z3h (ek : κ → Value) (ev : ν → Value) (w : World) (r : Nat) (m : List (κ × ν × Nat)) (c : Nat) : Prop := w.heap[r]? = some (.map (m.map (ment ek ev)).toArray c)
variable {ek : κ → Value} {ev : ν → Value} {w w' : World} {r : Nat} {m : List (κ × ν × Nat)} {c : Nat} {t e : TypeId}
theorem Z3h.lt (h : Z3h ek ev w r m c) : r < w.heap.size := (Array.getElem?_eq_some_iff.1 h).1
theorem Z3h.below (h : Z3h ek ev w r m c) (hb : Below w.heap.size w w') : Z3h ek ev w' r m c := (hb.block r h.lt).trans h
theorem Z3h.new (w : World) (ek : κ → Value) (ev : ν → Value) : Z3h ek ev (w.alloc (.map #[] 0)) w.heap.size [] 0 := heap_alloc_new w _
end
section
variable {κ ν : Type} [DecidableEq κ]
structure Z3i (P : Program) (k : TypeId) (ek : κ → Value) : Prop where
 und : ∃ d, P.underlying k = some d ∧ ((∀ a b, Instr.sameNow d (ek a) (ek b) = none) ∨ ∀ a b, Instr.sameNow d (ek a) (ek b) = some (decide (a = b)))
 eq : ∀ a b w, (Op.equal k (ek a) (ek b)).run P w = .ok (decide (a = b)) w
 ok : ∀ e a w, (Instr.checkKey e 10000 k (ek a)).run P w = .ok () w
 same : ∀ a, Instr.sameBits 10000 (ek a) (ek a) = true
variable {ek : κ → Value} {ev : ν → Value} {w w' : World} {r : Nat} {m : List (κ × ν × Nat)} {c : Nat} {P : Program} {k e t : TypeId}
theorem Z3j (K : Z3i P k ek) (a : κ) (w : World) : ∀ (m : List (κ × ν × Nat)) (i : Nat),
  (Instr.findAsking k (ek a) (m.map (ment ek ev)) i).run P w = .ok (match m.findIdx? (fun x => decide (a = x.1)) with | some j => (m[j]?).map fun x => (i + j, ev x.2.1) | none => none) w
 | [], i => by simp [Instr.findAsking]
 | x :: q, i => by
  have hq : (Op.equal k (ek a) (ment ek ev x).key).run P w = .ok (decide (a = x.1)) w := K.eq a x.1 w
  simp only [List.map_cons, Instr.findAsking, Sem.run_bind, hq, Result.andThen_ok]; by_cases h : a = x.1
  ·simp [h, List.findIdx?_cons, ment]
  ·simp only [h, decide_false, Bool.false_eq_true, if_false]
   have ih := Z3j K a w q (i + 1)
   rw [ih, List.findIdx?_cons]
   simp only [h, decide_false, Bool.false_eq_true, if_false]; cases hq : q.findIdx? (fun x => decide (a = x.1)) with
   | none => simp
   | some j =>
    have hj : j < q.length := by
     have := List.findIdx?_eq_some_iff_findIdx_eq.1 hq
     omega
    simp [List.getElem?_eq_getElem hj]
    omega
theorem Z3k {d : TypeDesc} (hn : ∀ a b, Instr.sameNow d (ek a) (ek b) = some (decide (a = b))) (a : κ) : ∀ (m : List (κ × ν × Nat)) (i : Nat),
  Instr.findNow d (ek a) (m.map (ment ek ev)) i = some (match m.findIdx? (fun x => decide (a = x.1)) with | some j => (m[j]?).map fun x => (i + j, ev x.2.1) | none => none)
 | [], i => by simp [Instr.findNow]
 | x :: q, i => by
  have hx : Instr.sameNow d (ek a) (ment ek ev x).key = some (decide (a = x.1)) := hn a x.1
  simp only [List.map_cons, Instr.findNow, hx]; by_cases h : a = x.1
  ·simp [h, List.findIdx?_cons, ment]
  ·simp only [h, decide_false]
   rw [Z3k hn a q (i + 1), List.findIdx?_cons]
   simp only [h, decide_false, Bool.false_eq_true, if_false]; cases hq : q.findIdx? (fun x => decide (a = x.1)) with
   | none => simp
   | some j =>
    have hj : j < q.length := by
     have := List.findIdx?_eq_some_iff_findIdx_eq.1 hq
     omega
    simp [List.getElem?_eq_getElem hj]
    omega
theorem Z3l (K : Z3i P k ek) (a : κ) (w : World) (m : List (κ × ν × Nat)) :
  (Instr.findKey k (ek a) (m.map (ment ek ev))).run P w = .ok (match m.findIdx? (fun x => decide (a = x.1)) with | some j => (m[j]?).map fun x => (j, ev x.2.1) | none => none) w := by
 obtain ⟨d, hd, hn | hn⟩ := K.und
 ·unfold Instr.findKey
  simp only [Sem.run_bind, run_underlying hd, Result.andThen_ok]; cases m with
  | nil => simp [Instr.findNow]
  | cons x q =>
   have : Instr.findNow d (ek a) ((x :: q).map (ment ek ev)) 0 = none := by simp [Instr.findNow, ment, hn]
   rw [this]; have h := Z3j (ev := ev) K a w (x :: q) 0
   simpa using h
 ·unfold Instr.findKey
  simp only [Sem.run_bind, run_underlying hd, Result.andThen_ok]; rw [Z3k hn a m 0]; simp only [Nat.zero_add]; rfl
theorem Z3m (a : κ) : ∀ m : List (κ × ν × Nat), mget a m = match m.findIdx? (fun x => decide (a = x.1)) with | some j => (m[j]?).map fun x => x.2.1 | none => none
 | [] => by simp [mget]
 | x :: q => by
  unfold mget; by_cases h : a = x.1
  ·simp [h, List.findIdx?_cons]
  ·rw [if_neg h, Z3m a q, List.findIdx?_cons]
   simp only [h, decide_false, Bool.false_eq_true, if_false]; cases q.findIdx? (fun x => decide (a = x.1)) <;> simp
theorem Z3n (a : κ) (v : ν) (c : Nat) : ∀ m : List (κ × ν × Nat), mput a v c m = match m.findIdx? (fun x => decide (a = x.1)) with | some j => m.modify j (fun x => (a, v, x.2.2)) | none => m ++ [(a, v, c)]
 | [] => by simp [mput]
 | x :: q => by
  unfold mput; by_cases h : a = x.1
  ·simp [h, List.findIdx?_cons, List.modify]
  ·rw [if_neg h, Z3n a v c q, List.findIdx?_cons]
   simp only [h, decide_false, Bool.false_eq_true, if_false]; cases q.findIdx? (fun x => decide (a = x.1)) <;> simp
theorem Z3o (a : κ) (m : List (κ × ν × Nat)) : (m.findIdx? (fun x => decide (a = x.1))).isSome = decide (a ∈ Z3d m) := by
 rw [List.findIdx?_isSome]
 rw [Bool.eq_iff_iff]
 simp only [List.any_eq_true, decide_eq_true_eq, Z3d, List.mem_map]
 exact ⟨fun ⟨x, h, e⟩ => ⟨x, h, e.symm⟩, fun ⟨x, h, e⟩ => ⟨x, h, e.symm⟩⟩
theorem Z3h.look (h : Z3h ek ev w r m c) (K : Z3i P k ek) (ht : P.underlying t = some (.map k e)) {z : Value} (hz : (zeroValue e).run P w = .ok z w) (a : κ) :
  (Instr.lookup t (.map (some r)) (ek a) false).run P w = .ok (match mget a m with | some v => ev v | none => z) w := by
 simp only [Instr.lookup, Sem.run_bind, run_underlying ht, Result.andThen_ok, MapKept.run_getObj_map h, K.ok, Z3l (ev := ev) K a, Sem.run_pure]
 rw [Z3m]
 cases hq : m.findIdx? (fun x => decide (a = x.1)) with
 | none => simp [hz]
 | some j =>
  have hj : j < m.length := by
   have := List.findIdx?_eq_some_iff_findIdx_eq.1 hq
   omega
  simp [List.getElem?_eq_getElem hj]
theorem Z3h.put (h : Z3h ek ev w r m c) (K : Z3i P k ek) (ht : P.underlying t = some (.map k e)) (a : κ) (v : ν) :
  (Instr.mapUpdate t (.map (some r)) (ek a) (ev v)).run P w = .ok () (setBlock w r (.map ((mput a v c m).map (ment ek ev)).toArray (mclk a m c))) := by
 simp only [Instr.mapUpdate, Sem.run_bind, run_underlying ht, Result.andThen_ok, MapKept.run_getObj_map h, K.ok, Z3l (ev := ev) K a]
 have hi := Z3o a m
 rw [Z3n]
 unfold mclk
 cases hq : m.findIdx? (fun x => decide (a = x.1)) with
 | none =>
  rw [hq] at hi; have hn : a ∉ Z3d m := by simpa using hi
  simp [MapKept.run_setObj_map _ h, setBlock, hn, ment]
 | some j =>
  rw [hq] at hi; have hn : a ∈ Z3d m := by simpa using hi
  have hj : j < m.length := by
   have := List.findIdx?_eq_some_iff_findIdx_eq.1 hq
   omega
  have ha : a = (m[j]).1 := by
   obtain ⟨hp, hb⟩ := List.findIdx?_eq_some_iff_getElem.1 hq
   simpa using hb.1
  have hk : (Instr.keyThatStays (ek a) (ek a)).run P w = .ok (ek a) w := by simp [Instr.keyThatStays, K.same]
  have hke : ek (m[j]).1 = ek a := by rw [← ha]
  simp only [List.getElem?_eq_getElem hj, Option.map_some, Sem.run_bind, List.getElem?_toArray, List.getElem?_map, Option.getD_some, ment, hke, hk, Result.andThen_ok, MapKept.run_setObj_map _ h, setBlock, hn, if_true]; congr 4
  apply Array.ext'
  rw [Array.toList_modify]; apply List.ext_getElem?
  intro i; simp only [List.getElem?_modify, List.getElem?_map]; by_cases hij : j = i
  ·subst hij; simp [List.getElem?_eq_getElem hj, ment]
  ·simp [hij]
end
end Go.Proofs.YtpcgeihemkhkjaaGreatDoor
namespace Go.Proofs.YtpcgeihemkhkjaaGreatDoor
open Go.RowKit
set_option maxHeartbeats 1000000
set_option maxRecDepth 100000
theorem Z3p {l : List Bar} {k : Nat} (h : k < l.length) (h0 : 0 < k) : Z1w (Z1x l k) (l.drop k) =
  if Z17 [barE l[k].1 l[k].2.1 l[k].2.2, Z15 (decide (0 ≤ Z1t (l[k - 1]'(by omega)).1 (l[k - 1]'(by omega)).2.1 (l[k - 1]'(by omega)).2.2 l[k].1 l[k].2.1 l[k].2.2)) 11] = 0 then Z1w (Z1x l (k + 1)) (l.drop (k + 1))
  else Z17 [barE l[k].1 l[k].2.1 l[k].2.2, Z15 (decide (0 ≤ Z1t (l[k - 1]'(by omega)).1 (l[k - 1]'(by omega)).2.1 (l[k - 1]'(by omega)).2.2 l[k].1 l[k].2.1 l[k].2.2)) 11] := by
 rw [Z1v]
 by_cases hE : barE l[k].1 l[k].2.1 l[k].2.2 = 0
 ·cases hl : Z1u (l[k - 1]'(by omega)).1 (l[k - 1]'(by omega)).2.1 (l[k - 1]'(by omega)).2.2 l[k].1 l[k].2.1 l[k].2.2
  ·rw [Z2c h h0 hE hl]; simp [Z17, hE, Z15]
  ·rw [Z2d h h0 hE hl]; simp [Z17, hE, Z15]
 ·rw [Z2a h hE]; simp [Z17, hE]
theorem Z3q {l : List Bar} {k : Nat} (h : k < l.length) (h0 : ¬ 0 < k) : Z1w (Z1x l k) (l.drop k) =
  if Z17 [barE l[k].1 l[k].2.1 l[k].2.2, Z15 false 11] = 0 then Z1w (Z1x l (k + 1)) (l.drop (k + 1)) else Z17 [barE l[k].1 l[k].2.1 l[k].2.2, Z15 false 11] := by
 obtain rfl : k = 0 := by omega
 by_cases hE : barE l[0].1 l[0].2.1 l[0].2.2 = 0
 ·rw [Z2b h hE]; simp [Z17, hE, Z15]
 ·rw [Z2a h hE]; simp [Z17, hE]
theorem Z3r (l : List Bar) (A : Option Addr) (c : Nat) (w : World) (hl : l.length ≤ maxLen) (h : Rd bc 3 w A l) :
  Calls Tryz.prog 135 #[.slice A l.length c] w (RV w (.int .i64 (netE l))) := by
 unfold maxLen at hl
 by_cases hbig : 4096 < l.length
 ·have HB : Hid (netE l = 5) := by unfold netE; rw [if_pos hbig]; rfl
  go_enter Tryz.func135, Tryz.ntmps135
  go_wp2; go_ret; exact ⟨Z0b (by rw [HB.out]), by (repeat first|exact J0|assumption|(apply J1;assumption)|apply J2|apply J3|apply J4)⟩
 ·have HB : Hid (netE l = Z1w none l) := by unfold netE; rw [if_neg hbig]; rfl
  go_enter Tryz.func135, Tryz.ntmps135
  go_wp2; go_loopw [11] (fun i wr => ∃ k : Nat, k ≤ l.length ∧ i = .int .i64 k ∧ Hid (netE l = Z1w (Z1x l k) (l.drop k)) ∧ Below w.heap.size w wr) (fun i _ => l.length - (intOf i).toNat)
  case atStart => exact ⟨0, Nat.zero_le _, rfl, HB, Z03⟩
  case round =>
   obtain ⟨k, hk, rfl, H, hbw⟩ := hrel; by_cases hlt : k < l.length
   ·have hr := h.below hbw
    obtain ⟨b, off, rfl, hb, e0, e1, e2⟩ := hr.bar hlt
    by_cases h0 : 0 < k
    ·have hk1 : 1 ≤ k := h0
     have f2 := hr.barAt (k := k - 1) (by omega)
     have f3 := (hr.alloc (.cells #[.int .i64 l[k].1, .int .i64 l[k].2.1, .int .i64 l[k].2.2] 111)).barAt (k := k - 1) (by omega)
     have hB := Blk.new wr 111 #[.int .i64 l[k].1, .int .i64 l[k].2.1, .int .i64 l[k].2.2]
     have HN := Lib.hid (Z3p hlt h0)
     go_wp2; refine Z0z [0, 2, 3] [(1, false), (4, false), (5, true), (6, true), (7, true), (8, true), (9, true), (10, true), (11, false)] [12, 13, 14, 15, 16, 17, 18] (by kernel_rfl) (by kernel_rfl) (fun d _ _ _ _ h => by cases d <;> exact h) ?_
     simp only [List.map_cons, List.map_nil, List.getD_cons_zero, List.getD_cons_succ]; repeat (go_big_quiet_step (fail))
     refine wpQuiet_nil ?_; refine Z11 rfl (fun K hK => ?_); go_simp; refine (Z29 _ _ _ _).mono ?_
     rintro e w1 ⟨rfl, hb1⟩; refine hK _ _ (by (repeat first|exact J0|assumption|(apply J1;assumption)|apply J2|apply J3|apply J4)) ?_
     clear hK K; (first | replace hB := hB.st0 hb1 | replace hB := hB.st1 hb1 | replace hB := hB.std hb1 | replace hB := hB.std1 hb1 | replace hB := hB.st2 hb1 | replace hB := hB.std2 hb1 | replace hB := hB.st3 hb1)
     have kB := hB.facts
     (first | replace hr := hr.st0 hb1 | replace hr := hr.st1 hb1 | replace hr := hr.std hb1 | replace hr := hr.std1 hb1 | replace hr := hr.st2 hb1 | replace hr := hr.std2 hb1 | replace hr := hr.st3 hb1)
     have f4 := hr.barAt (k := k - 1) (by omega)
     have hmx : (if (1 : Int) < (k : Int) then (k : Int) - 1 else 0) = (k : Int) - 1 := by split <;> omega
     refine Z11 rfl (fun K hK => ?_); go_simp; refine hK _ _ (by (repeat first|exact J0|assumption|(apply J1;assumption)|apply J2|apply J3|apply J4)) ?_
     clear hK K; iterate 6 (refine Z14 rfl ?_; intro K hK; go_big_quiet_op; go_big_quiet_on)
     refine Z11 rfl (fun K hK => ?_); go_simp; refine hK _ _ (by (repeat first|exact J0|assumption|(apply J1;assumption)|apply J2|apply J3|apply J4)) ?_
     clear hK K; refine Z10 ?_; go_wp2_with (first | (go_at_call 158; refine (Z26 _ _ _ _ _ _ _).mono ?_; rintro e w1 ⟨rfl, hb1⟩) | (go_at_call 102; refine (Z1k _ _ _).mono ?_; rintro e w1 ⟨rfl, hb1⟩) | (go_at_call 99; go_must (refine (Z1m [barE l[k].1 l[k].2.1 l[k].2.2, Z15 (decide (0 ≤ Z1t (l[k - 1]'(by omega)).1 (l[k - 1]'(by omega)).2.1 (l[k - 1]'(by omega)).2.2 l[k].1 l[k].2.1 l[k].2.2)) 11] _ _ _ (by simp [maxLen]) (Rd.ints2 (by simp) (by go_simp) (by go_simp))).mono ?_); rintro e w4 ⟨rfl, hb4⟩))
     ·have hne : (Z17 [barE l[k].1 l[k].2.1 l[k].2.2, Z15 (decide (0 ≤ Z1t (l[k - 1]'(by omega)).1 (l[k - 1]'(by omega)).2.1 (l[k - 1]'(by omega)).2.2 l[k].1 l[k].2.1 l[k].2.2)) 11] != 0) = true := by assumption
      go_ret; exact ⟨Z0b (by rw [H.out, HN.out, if_neg (by simpa using hne)]), by (repeat first|exact J0|assumption|(apply J1;assumption)|apply J2|apply J3|apply J4)⟩
     ·have hne : (Z17 [barE l[k].1 l[k].2.1 l[k].2.2, Z15 (decide (0 ≤ Z1t (l[k - 1]'(by omega)).1 (l[k - 1]'(by omega)).2.1 (l[k - 1]'(by omega)).2.2 l[k].1 l[k].2.1 l[k].2.2)) 11] != 0) = false := by assumption
      go_roundw; case rel => exact ⟨k + 1, by omega, by go_num, by rw [H.out, HN.out, if_pos (by simpa using hne)]; rfl, by (repeat first|exact J0|assumption|(apply J1;assumption)|apply J2|apply J3|apply J4)⟩
      case measure => simp [intOf]; omega
    ·have HN := Lib.hid (Z3q hlt h0)
     have hB := Blk.new wr 111 #[.int .i64 l[k].1, .int .i64 l[k].2.1, .int .i64 l[k].2.2]
     have h0' : decide (0 < k) = false := by simpa using h0
     go_wp2; refine Z0z [0, 2, 3] [(1, false), (4, false), (5, true), (6, true), (7, true), (8, true), (9, true), (10, true), (11, false)] [12, 13, 14, 15, 16, 17, 18] (by kernel_rfl) (by kernel_rfl) (fun d _ _ _ _ h => by cases d <;> exact h) ?_
     simp only [List.map_cons, List.map_nil, List.getD_cons_zero, List.getD_cons_succ]; repeat (go_big_quiet_step (fail))
     refine wpQuiet_nil ?_; refine Z11 rfl (fun K hK => ?_); go_simp; refine (Z29 _ _ _ _).mono ?_
     rintro e w1 ⟨rfl, hb1⟩; refine hK _ _ (by (repeat first|exact J0|assumption|(apply J1;assumption)|apply J2|apply J3|apply J4)) ?_
     clear hK K; (first | replace hB := hB.st0 hb1 | replace hB := hB.st1 hb1 | replace hB := hB.std hb1 | replace hB := hB.std1 hb1 | replace hB := hB.st2 hb1 | replace hB := hB.std2 hb1 | replace hB := hB.st3 hb1)
     have kB := hB.facts
     refine Z11 rfl (fun K hK => ?_); go_simp; refine hK _ _ (by (repeat first|exact J0|assumption|(apply J1;assumption)|apply J2|apply J3|apply J4)) ?_
     clear hK K; iterate 6 (refine Z12 (by kernel_rfl) ?_; intro K hK; simp only [Act.put, List.setIfInBounds_toArray, List.set_cons_zero, List.set_cons_succ]; refine hK _ ?_; clear hK K)
     refine Z13 (by kernel_rfl) ?_; intro K hK; simp only [Act.put, List.setIfInBounds_toArray, List.set_cons_zero, List.set_cons_succ]; refine hK _ ?_; clear hK K; refine Z10 ?_; go_wp2_with (first | (go_at_call 102; refine (Z1k _ _ _).mono ?_; rintro e w1 ⟨rfl, hb1⟩) | (go_at_call 99; go_must (refine (Z1m [barE l[k].1 l[k].2.1 l[k].2.2, Z15 false 11] _ _ _ (by simp [maxLen]) (Rd.ints2 (by simp) (by go_simp) (by go_simp))).mono ?_); rintro e w4 ⟨rfl, hb4⟩))
     ·have hne : (Z17 [barE l[k].1 l[k].2.1 l[k].2.2, Z15 false 11] != 0) = true := by assumption
      go_ret; exact ⟨Z0b (by rw [H.out, HN.out, if_neg (by simpa using hne)]), by (repeat first|exact J0|assumption|(apply J1;assumption)|apply J2|apply J3|apply J4)⟩
     ·have hne : (Z17 [barE l[k].1 l[k].2.1 l[k].2.2, Z15 false 11] != 0) = false := by assumption
      go_roundw; case rel => exact ⟨k + 1, by omega, by go_num, by rw [H.out, HN.out, if_pos (by simpa using hne)]; rfl, by (repeat first|exact J0|assumption|(apply J1;assumption)|apply J2|apply J3|apply J4)⟩
      case measure => simp [intOf]; omega
   ·have hkl : k = l.length := by omega
    go_wp2; go_ret; refine ⟨Z0b ?_, by (repeat first|exact J0|assumption|(apply J1;assumption)|apply J2|apply J3|apply J4)⟩
    rw [H.out, hkl, List.drop_length]; rfl
set_option maxHeartbeats 400000
def beqB (x y s x' y' s' : Int) : Bool := decide ((x, y, s) = (x', y', s'))
def beqK (x y x' y' : Int) : Bool := decide ((x, y) = (x', y'))
theorem Z3s (d : Nat) (x y s x' y' s' : Int) (w : World) : (Op.equalIn (d + 2) 111 (.agg #[.int .i64 x, .int .i64 y, .int .i64 s]) (.agg #[.int .i64 x', .int .i64 y', .int .i64 s'])).run Tryz.prog w = .ok (beqB x y s x' y' s') w := by
 rw [run_equalIn_struct w (d + 1) 111 _ _ (by kernel_rfl) (by kernel_rfl)]
 unfold beqB
 by_cases h1 : x = x' <;> by_cases h2 : y = y' <;> by_cases h3 : s = s' <;> simp [go_sem, h1, h2, h3]
theorem Z3t (d : Nat) (x y x' y' : Int) (w : World) : (Op.equalIn (d + 2) 90 (.agg #[.int .i64 x, .int .i64 y]) (.agg #[.int .i64 x', .int .i64 y'])).run Tryz.prog w = .ok (beqK x y x' y') w := by
 rw [run_equalIn_struct w (d + 1) 90 _ _ (by kernel_rfl) (by kernel_rfl)]
 unfold beqK
 by_cases h1 : x = x' <;> by_cases h2 : y = y' <;> simp [go_sem, h1, h2]
@[go_sem high] theorem eql_bar (x y s x' y' s' : Int) (w : World) : (binOp .eql 111 (.agg #[.int .i64 x, .int .i64 y, .int .i64 s]) (.agg #[.int .i64 x', .int .i64 y', .int .i64 s'])).run Tryz.prog w = .ok (.bool (beqB x y s x' y' s')) w := by
 simp only [binOp]
 simp [Op.equal, Op.maxDepth, Z3s 9998]
@[go_sem high] theorem eql_knot (x y x' y' : Int) (w : World) : (binOp .eql 90 (.agg #[.int .i64 x, .int .i64 y]) (.agg #[.int .i64 x', .int .i64 y'])).run Tryz.prog w = .ok (.bool (beqK x y x' y')) w := by
 simp only [binOp]
 simp [Op.equal, Op.maxDepth, Z3t 9998]
@[go_sem high] theorem neq_bar (x y s x' y' s' : Int) (w : World) : (binOp .neq 111 (.agg #[.int .i64 x, .int .i64 y, .int .i64 s]) (.agg #[.int .i64 x', .int .i64 y', .int .i64 s'])).run Tryz.prog w = .ok (.bool (!beqB x y s x' y' s')) w := by
 simp only [binOp]
 simp [Op.equal, Op.maxDepth, Z3s 9998]
@[go_sem high] theorem neq_knot (x y x' y' : Int) (w : World) : (binOp .neq 90 (.agg #[.int .i64 x, .int .i64 y]) (.agg #[.int .i64 x', .int .i64 y'])).run Tryz.prog w = .ok (.bool (!beqK x y x' y')) w := by
 simp only [binOp]
 simp [Op.equal, Op.maxDepth, Z3t 9998]
end Go.Proofs.YtpcgeihemkhkjaaGreatDoor
namespace Go.Proofs.YtpcgeihemkhkjaaGreatDoor
abbrev Legs := Bool × Bool × Bool × Bool
def lowK (b : Bar) : Knot := (b.1, b.2.1)
def uppK (b : Bar) : Knot := (b.1 + b.2.2, b.2.1 + 1)
open Go.RowKit Go.ChangeMaps
set_option maxHeartbeats 2000000
set_option maxRecDepth 100000
structure Chg (S : List Nat) (w w' : World) : Prop where
 os : w'.os = w.os
 tape : w'.tape = w.tape
 output : w'.output = w.output
 size : w.heap.size ≤ w'.heap.size
 block : ∀ k, k < w.heap.size → k ∉ S → w'.heap[k]? = w.heap[k]?
section
variable {S : List Nat} {w w' w1 W : World}
theorem Chg.refl : Chg S w w := ⟨rfl, rfl, rfl, Nat.le_refl _, fun _ _ _ => rfl⟩
theorem Chg.of_below (h : Below w.heap.size w w') : Chg S w w' := ⟨h.os, h.tape, h.output, h.size, fun k hk _ => h.block k hk⟩
theorem Chg.trans (h : Chg S w W) (h' : Chg S W w1) : Chg S w w1 :=
 ⟨h'.os.trans h.os, h'.tape.trans h.tape, h'.output.trans h.output, Nat.le_trans h.size h'.size, fun k hk hn => (h'.block k (Nat.lt_of_lt_of_le hk h.size) hn).trans (h.block k hk hn)⟩
theorem Chg.alloc (h : Chg S w W) (o : Obj) : Chg S w (W.alloc o) := h.trans (Chg.of_below (Z04 Z03 o))
theorem Chg.drew (h : Chg S w W) : Chg S w W.drew := h.trans (Chg.of_below (Z05 Z03))
theorem Z3u (W : World) {r k : Nat} (o : Obj) (h : k ≠ r) : (setBlock W r o).heap[k]? = W.heap[k]? := by
 simp [ChangeMaps.setBlock, Array.getElem?_setIfInBounds_ne (Ne.symm h)]
theorem Chg.setBlock (h : Chg S w W) {r : Nat} (hr : r ∈ S) (o : Obj) : Chg S w (setBlock W r o) :=
 ⟨h.os, h.tape, h.output, Nat.le_trans h.size (by simp [ChangeMaps.setBlock]), fun k hk hn => (Z3u W o (fun e => hn (by rw [e]; exact hr))).trans (h.block k hk hn)⟩
theorem Chg.below {B : Nat} (h : Chg S w W) (hS : ∀ k ∈ S, B ≤ k) (hB : B ≤ w.heap.size) : Below B w W :=
 ⟨h.os, h.tape, h.output, h.size, fun k hk => h.block k (by omega) (fun hm => by have := hS k hm; omega)⟩
theorem Chg.mono {S' : List Nat} (h : Chg S w W) (hS : ∀ k ∈ S, k ∈ S') : Chg S' w W := ⟨h.os, h.tape, h.output, h.size, fun k hk hn => h.block k hk (fun hm => hn (hS k hm))⟩
theorem Blk.chg {g : Nat} {t : TypeId} {cs : Array Value} (h : Blk w g t cs) (hc : Chg S w w') (hg : g ∉ S) : Blk w' g t cs := (hc.block g h.lt hg).trans h
end
end Go.Proofs.YtpcgeihemkhkjaaGreatDoor
namespace Go.Proofs.YtpcgeihemkhkjaaGreatDoor
open Go.RowKit
set_option maxHeartbeats 1000000
set_option maxRecDepth 100000
structure Elem (P : Program) (t e : TypeId) (sz bytes : Nat) : Prop where
 und : P.underlying t = some (.slice e)
 row : (P.info? e).map (fun i => (i.zero.map (fun z => z.cells.size), i.size, i.bytes)) = some (some sz, sz, bytes)
 pos : 0 < sz
theorem Z3v : Elem Tryz.prog 65 111 3 24 := ⟨by kernel_rfl, by kernel_rfl, by decide⟩
theorem Z3w : Elem Tryz.prog 209 90 2 16 := ⟨by kernel_rfl, by kernel_rfl, by decide⟩
section
variable {α : Type} {enc : α → List Value} {sz bytes : Nat} {P : Program} {t e : TypeId} {w : World}
theorem Z3x (E : Elem P t e sz bytes) (henc : ∀ x, (enc x).length = sz) (hone : ∀ x, ∀ u ∈ enc x, u.oneCell' = true) (base : Nat) (ty : TypeId) (v u : Value) (l r : List α) (hown : Own enc sz base e w v l) (hu : Sl enc sz w u r)
  (h63 : l.length + r.length ≤ maxLen) (hb : (l.length + r.length) * bytes ≤ 140737488355328) (hbase : base ≤ w.heap.size) :
  ∃ v' w', (Builtin.append_ #[t, t] ty #[v, u]).run P w = .ok v' w' ∧ Own enc sz base e w' v' (l ++ r) ∧ w.grownBy w' v.ownBlock := by
 obtain ⟨hund, hrow, hpos⟩ := E
 obtain ⟨i, hi, hrow⟩ : ∃ i, P.info? e = some i ∧ (i.zero.map (fun z => z.cells.size), i.size, i.bytes) = (some sz, sz, bytes) := by
  cases h : P.info? e with
  | none => rw [h] at hrow; cases hrow
  | some i => rw [h] at hrow; exact ⟨i, rfl, Option.some.inj hrow⟩
 have h1 := congrArg Prod.fst hrow
 have h2 := congrArg (fun x => x.2.1) hrow
 have h3 := congrArg (fun x => x.2.2) hrow
 obtain ⟨z, hz, hzs⟩ : ∃ z, i.zero = some z ∧ z.cells.size = sz := by
  cases h : i.zero with
  | none => rw [h] at h1; cases h1
  | some z => rw [h] at h1; exact ⟨z, rfl, Option.some.inj h1⟩
 obtain ⟨A, c, rfl, hlc, hcm, hr⟩ := hu
 cases A with
 | some ad =>
  have hl : (r.flatMap enc).length = r.length * sz := by
   clear hr hlc hb h63; induction r with
   | nil => simp
   | cons x r ih => simp [henc, ih, Nat.succ_mul]; omega
  obtain ⟨v', w', q1, q2, q3, _⟩ := run_append_own (P := P) w base t ty e i z sz bytes hund hi hz h2 h3 hzs hpos v l.length (l.flatMap enc) hown ad r.length c (r.flatMap enc) hl (by
   intro j u hj; have hjl : j < r.length * sz := by rw [← hl]; exact (List.getElem?_eq_some_iff.1 hj).1
   have hk : j / sz < r.length := Nat.div_lt_of_lt_mul (by rw [Nat.mul_comm]; exact hjl)
   obtain ⟨b, off, he, hbl, hc⟩ := hr (j / sz) r[j / sz] (List.getElem?_eq_getElem hk)
   have hm : j % sz < (enc r[j / sz]).length := by rw [henc]; exact Nat.mod_lt _ hpos
   have hj' := Z00 henc r (j / sz) r[j / sz] (j % sz) _ (List.getElem?_eq_getElem hk) (List.getElem?_eq_getElem hm)
   have hdm : j / sz * sz + j % sz = j := by rw [Nat.mul_comm]; exact Nat.div_add_mod j sz
   rw [hdm, hj] at hj'; have hcj := hc (j % sz) u (by rw [List.getElem?_eq_getElem hm]; exact hj'.symm)
   obtain rfl : ad = ⟨b, off, none⟩ := Option.some.inj he
   rw [Nat.add_assoc, hdm] at hcj; unfold Addr.add; split
   ·rename_i h0
    subst h0; exact hcj
   ·exact hcj) (by
   intro u hu; obtain ⟨x, hx, hux⟩ := List.mem_flatMap.1 hu
   exact hone x u hux) h63 hb hbase
  refine ⟨v', w', q1, ?_, q3⟩
  unfold Own; simpa using q2
 | none =>
  have hr0 : r = [] := by
   cases r with
   | nil => rfl
   | cons x r =>
    obtain ⟨b, off, he, _⟩ := hr 0 x rfl
    cases he
  subst hr0; refine ⟨v, w, ?_, by simpa using hown, World.grownBy.refl _ _⟩
  rcases hown.2 with ⟨rfl, hn⟩ | ⟨g, cap, cur, rfl, _, _, hnc, _⟩
  ·simp [Builtin.append_, run_underlying hund, sizeOf, typeInfo, hi, Builtin.lenOf, Builtin.firstCells]
  ·simp [Builtin.append_, run_underlying hund, sizeOf, typeInfo, hi, Builtin.lenOf, Builtin.firstCells, hnc, storeCells]
theorem Z3y {ops : Array Oper} {rest : List Oper} {o : Oper} {a : Act} {Q : Exit → Act → World → Prop} (hgd : o.guard = none) (E : Elem P t e sz bytes) (henc : ∀ x, (enc x).length = sz) (hone : ∀ x, ∀ u ∈ enc x, u.oneCell' = true) (s x : Operand)
  (ho : o.op = .call { callee := .builtin .append, args := #[s, x], argTypes := #[t, t] }) (base : Nat) (v u : Value) (l r : List α) (hs : a.eval s = v) (hx : a.eval x = u) (hown : Own enc sz base e w v l) (hu : Sl enc sz w u r)
  (h63 : l.length + r.length ≤ maxLen) (hb : (l.length + r.length) * bytes ≤ 140737488355328) (hbase : base ≤ w.heap.size)
  (h : ∀ v' w', Own enc sz base e w' v' (l ++ r) → w.grownBy w' v.ownBlock → wpList P ops Q rest (a.put o.dst v') w') : wpList P ops Q (o :: rest) a w := by
 refine wpList_plain hgd fun K hK' => ?_
 obtain ⟨v', w', hr, h2, h3⟩ := Z3x E henc hone base o.type v u l r hown hu h63 hb hbase
 unfold Oper.wp
 simp [execOp, ho, resolve, invoke, builtin, hs, hx, hr, Result.andThen]
 exact hK' _ _ (h v' w' h2 h3)
end
theorem Z3z (b : Bar) : ∀ u ∈ bc b, u.oneCell' = true := by intro u hu; simp [bc] at hu; rcases hu with rfl | rfl | rfl <;> rfl
theorem Z40 (k : Knot) : ∀ u ∈ kc k, u.oneCell' = true := by intro u hu; simp [kc] at hu; rcases hu with rfl | rfl <;> rfl
theorem Z41 {α : Type} {enc : α → List Value} {sz : Nat} {e : TypeId} {w W W' w2 : World} {v : Value} {l : List α} (hown : Own enc sz w.heap.size e W v l) (hgr : W'.grownBy w2 v.ownBlock) (hb : Below w.heap.size w W') : Below w.heap.size w w2 :=
 Z09 hgr hb fun k hk => (hown.lt k hk).1
abbrev SlB := Sl bc 3
abbrev SlK := Sl kc 2
abbrev OwB (base : Nat) := Own bc 3 base 111
abbrev OwK (base : Nat) := Own kc 2 base 90
theorem Sl.one_bar (w : World) (x y s : Int) : SlB (w.alloc (.cells #[.int .i64 x, .int .i64 y, .int .i64 s] 111)) (.slice (some ⟨w.heap.size, 0, none⟩) 1 1) [(x, y, s)] := by
 have hB := Blk.new w 111 #[.int .i64 x, .int .i64 y, .int .i64 s]
 refine ⟨_, 1, rfl, by simp, by simp [maxLen], fun i b hb => ?_⟩
 match i, hb with
 | 0, hb =>
  obtain rfl : (x, y, s) = b := by simpa using hb
  refine ⟨_, 0, rfl, hB.lt, fun j u hj => ?_⟩
  rw [hB.cell]; simpa [bc] using hj
theorem Sl.one_knot (w : World) (x y : Int) : SlK (w.alloc (.cells #[.int .i64 x, .int .i64 y] 90)) (.slice (some ⟨w.heap.size, 0, none⟩) 1 1) [(x, y)] := by
 have hB := Blk.new w 90 #[.int .i64 x, .int .i64 y]
 refine ⟨_, 1, rfl, by simp, by simp [maxLen], fun i b hb => ?_⟩
 match i, hb with
 | 0, hb =>
  obtain rfl : (x, y) = b := by simpa using hb
  refine ⟨_, 0, rfl, hB.lt, fun j u hj => ?_⟩
  rw [hB.cell]; simpa [kc] using hj
section
variable {ops : Array Oper} {rest : List Oper} {o : Oper} {a : Act} {Q : Exit → Act → World → Prop} {base : Nat} {W : World} {v : Value} {X Y S : Int}
theorem Z42 {l : List Bar} (hown : OwB base W v l) (hgd : o.guard = none) (s x : Operand) (ho : o.op = .call { callee := .builtin .append, args := #[s, x], argTypes := #[65, 65] })
    (hs : a.eval s = v) (hx : a.eval x = .slice (some ⟨W.heap.size, 0, none⟩) 1 1) (hlen : l.length ≤ 1000000) (hbase : base ≤ W.heap.size)
    (h : ∀ v' w', OwB base w' v' (l ++ [(X, Y, S)]) → (W.alloc (.cells #[.int .i64 X, .int .i64 Y, .int .i64 S] 111)).grownBy w' v.ownBlock → wpList Tryz.prog ops Q rest (a.put o.dst v') w') :
    wpList Tryz.prog ops Q (o :: rest) a (W.alloc (.cells #[.int .i64 X, .int .i64 Y, .int .i64 S] 111)) :=
  Z3y hgd Z3v Z20 Z3z s x ho base v _ l [(X, Y, S)] hs hx (hown.alloc _) (Sl.one_bar W X Y S) (by simp [maxLen]; omega) (by simp; omega) (by simp; omega) h
theorem Z43 {w : World} {u : Value} {l r : List Knot} (hown : OwK base w v l) (hu : SlK w u r) (hgd : o.guard = none) (s x : Operand) (ho : o.op = .call { callee := .builtin .append, args := #[s, x], argTypes := #[209, 209] })
    (hs : a.eval s = v) (hx : a.eval x = u) (hlen : l.length + r.length ≤ 1000000) (hbase : base ≤ w.heap.size)
    (h : ∀ v' w', OwK base w' v' (l ++ r) → w.grownBy w' v.ownBlock → wpList Tryz.prog ops Q rest (a.put o.dst v') w') : wpList Tryz.prog ops Q (o :: rest) a w :=
  Z3y hgd Z3w Z21 Z40 s x ho base v u l r hs hx hown hu (by simp [maxLen]; omega) (by omega) hbase h
end
theorem Own.empty {α : Type} (enc : α → List Value) (sz : Nat) (w : World) (e : TypeId) : Own enc sz w.heap.size e (w.alloc (.cells #[] e)) (.slice (some ⟨w.heap.size, 0, none⟩) 0 0) ([] : List α) :=
 ⟨by simp, .inr ⟨w.heap.size, 0, #[], rfl, Nat.le_refl _, heap_alloc_new w _, Nat.le_refl _, by simp [maxLen], by simp, by simp⟩⟩
def RB (w : World) (l : List Bar) (e : Ending) (w' : World) : Prop := ∃ v, e = .returned v ∧ OwB w.heap.size w' v l ∧ Below w.heap.size w w'
def RK (w : World) (l : List Knot) (e : Ending) (w' : World) : Prop := ∃ v, e = .returned v ∧ OwK w.heap.size w' v l ∧ Below w.heap.size w w'
end Go.Proofs.YtpcgeihemkhkjaaGreatDoor

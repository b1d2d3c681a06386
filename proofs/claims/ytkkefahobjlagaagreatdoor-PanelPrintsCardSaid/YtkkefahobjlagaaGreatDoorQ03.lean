/- Maps as lists of entries: what a look-up, a store, a delete and the length of a map come to, for keys that are told apart by value. Conditions: 'KeyLaw' of the key's type. -/
import Derived.Test.YtkkefahobjlagaaGreatDoorQ01
import Derived.ChangeMaps4
import Derived.MapKept
import Derived.WideKeyEntry
namespace Go.Proofs.YtkkefahobjlagaaGreatDoor
open Go.RowKit Go.ChangeMaps
def mkeys {κ ν : Type} (m : List (κ × ν × Nat)) : List κ := m.map (·.1)
structure MOk {κ ν : Type} (m : List (κ × ν × Nat)) (c : Nat) : Prop where
 keys : (mkeys m).Nodup
 stamps : (m.map (·.2.2)).Nodup
 below : ∀ x ∈ m, x.2.2 < c
theorem MOk.nil_ {κ ν : Type} : MOk ([] : List (κ × ν × Nat)) 0 := ⟨by simp [mkeys], by simp, by simp⟩
section
variable {κ ν : Type} [DecidableEq κ]
def mget (a : κ) : List (κ × ν × Nat) → Option ν
 | [] => none
 | x :: r => if a = x.1 then some x.2.1 else mget a r
def mput (a : κ) (v : ν) (c : Nat) : List (κ × ν × Nat) → List (κ × ν × Nat)
 | [] => [(a, v, c)]
 | x :: r => if a = x.1 then (a, v, x.2.2) :: r else x :: mput a v c r
def mclk (a : κ) (m : List (κ × ν × Nat)) (c : Nat) : Nat := if a ∈ mkeys m then c else c + 1
theorem mget_put (a x : κ) (v : ν) (c : Nat) : ∀ m : List (κ × ν × Nat), mget x (mput a v c m) = if x = a then some v else mget x m
 | [] => by simp [mput, mget]
 | y :: r => by
  unfold mput
  by_cases h : a = y.1
  ·subst h
   simp only [if_true, mget]
   split <;> rfl
  ·rw [if_neg h]
   simp only [mget, mget_put a x v c r]
   by_cases h1 : x = y.1
   ·subst h1; rw [if_pos rfl, if_pos rfl, if_neg (Ne.symm h)]
   ·rw [if_neg h1, if_neg h1]
theorem mkeys_put (a : κ) (v : ν) (c : Nat) : ∀ m : List (κ × ν × Nat), mkeys (mput a v c m) = if a ∈ mkeys m then mkeys m else mkeys m ++ [a]
 | [] => by simp [mput, mkeys]
 | y :: r => by
  unfold mput
  by_cases h : a = y.1
  ·simp [h, mkeys]
  ·rw [if_neg h]
   have ih := mkeys_put a v c r
   have e : (a ∈ mkeys (y :: r)) = (a ∈ mkeys r) := by simp [mkeys, h]
   show y.1 :: mkeys (mput a v c r) = if a ∈ mkeys (y :: r) then y.1 :: mkeys r else y.1 :: mkeys r ++ [a]
   rw [ih]
   by_cases h2 : a ∈ mkeys r
   ·rw [if_pos h2, if_pos (by rw [e]; exact h2)]
   ·rw [if_neg h2, if_neg (by rw [e]; exact h2)]; rfl
theorem mput_stamps (a : κ) (v : ν) (c : Nat) : ∀ m : List (κ × ν × Nat), (mput a v c m).map (·.2.2) = if a ∈ mkeys m then m.map (·.2.2) else m.map (·.2.2) ++ [c]
 | [] => by simp [mput, mkeys]
 | y :: r => by
  unfold mput
  by_cases h : a = y.1
  ·simp [h, mkeys]
  ·rw [if_neg h]
   have ih := mput_stamps a v c r
   have e : (a ∈ mkeys (y :: r)) = (a ∈ mkeys r) := by simp [mkeys, h]
   rw [List.map_cons, ih]
   by_cases h2 : a ∈ mkeys r
   ·rw [if_pos h2, if_pos (by rw [e]; exact h2)]; rfl
   ·rw [if_neg h2, if_neg (by rw [e]; exact h2)]; rfl
theorem MOk.put {m : List (κ × ν × Nat)} {c : Nat} (h : MOk m c) (a : κ) (v : ν) : MOk (mput a v c m) (mclk a m c) := by
 refine ⟨?_, ?_, ?_⟩
 ·rw [mkeys_put]
  split
  ·exact h.keys
  ·rename_i hn
   rw [List.nodup_append]
   exact ⟨h.keys, by simp, fun x hx y hy => by
    obtain rfl : y = a := by simpa using hy
    rintro rfl; exact hn hx⟩
 ·rw [mput_stamps]
  split
  ·exact h.stamps
  ·rw [List.nodup_append]
   refine ⟨h.stamps, by simp, fun x hx y hy => ?_⟩
   obtain rfl : y = c := by simpa using hy
   rintro rfl
   obtain ⟨z, hz, e⟩ := List.mem_map.1 hx
   have := h.below z hz
   omega
 ·intro x hx
  have hm : x.2.2 ∈ (mput a v c m).map (·.2.2) := List.mem_map_of_mem hx
  rw [mput_stamps] at hm
  unfold mclk
  split at hm
  ·rename_i hk
   rw [if_pos hk]
   obtain ⟨z, hz, e⟩ := List.mem_map.1 hm
   rw [← e]; exact h.below z hz
  ·rename_i hk
   rw [if_neg hk]
   rcases List.mem_append.1 hm with hm | hm
   ·obtain ⟨z, hz, e⟩ := List.mem_map.1 hm
    have := h.below z hz
    omega
   ·have : x.2.2 = c := by simpa using hm
    omega
end
section
variable {κ ν : Type}
def ment (ek : κ → Value) (ev : ν → Value) (x : κ × ν × Nat) : MapEntry := { key := ek x.1, val := ev x.2.1, born := x.2.2 }
def MapAt (ek : κ → Value) (ev : ν → Value) (w : World) (r : Nat) (m : List (κ × ν × Nat)) (c : Nat) : Prop := w.heap[r]? = some (.map (m.map (ment ek ev)).toArray c)
variable {ek : κ → Value} {ev : ν → Value} {w w' : World} {r : Nat} {m : List (κ × ν × Nat)} {c : Nat} {t e : TypeId}
theorem MapAt.lt (h : MapAt ek ev w r m c) : r < w.heap.size := (Array.getElem?_eq_some_iff.1 h).1
theorem MapAt.below (h : MapAt ek ev w r m c) (hb : Below w.heap.size w w') : MapAt ek ev w' r m c := (hb.block r h.lt).trans h
theorem MapAt.alloc (h : MapAt ek ev w r m c) (o : Obj) : MapAt ek ev (w.alloc o) r m c := (Below.heap_alloc w o r h.lt).trans h
theorem MapAt.grown {row : Option Nat} (h : MapAt ek ev w r m c) (hg : w.grownBy w' row) (hr : some r ≠ row) : MapAt ek ev w' r m c := (hg.block r h.lt hr).trans h
theorem MapAt.new (w : World) (ek : κ → Value) (ev : ν → Value) : MapAt ek ev (w.alloc (.map #[] 0)) w.heap.size [] 0 := heap_alloc_new w _
theorem MapAt.ne_blk (h : MapAt ek ev w r m c) {g : Nat} {cs : Array Value} (hg : Blk w g t cs) : g ≠ r := by
 rintro rfl
 unfold MapAt at h
 unfold Blk at hg
 rw [h] at hg
 cases hg
end
section
variable {κ ν : Type} [DecidableEq κ]
structure KeyLaw (P : Program) (k : TypeId) (ek : κ → Value) : Prop where
 und : ∃ d, P.underlying k = some d ∧ ((∀ a b, Instr.sameNow d (ek a) (ek b) = none) ∨ ∀ a b, Instr.sameNow d (ek a) (ek b) = some (decide (a = b)))
 eq : ∀ a b w, (Op.equal k (ek a) (ek b)).run P w = .ok (decide (a = b)) w
 ok : ∀ e a w, (Instr.checkKey e 10000 k (ek a)).run P w = .ok () w
 same : ∀ a, Instr.sameBits 10000 (ek a) (ek a) = true
variable {ek : κ → Value} {ev : ν → Value} {w w' : World} {r : Nat} {m : List (κ × ν × Nat)} {c : Nat} {P : Program} {k e t : TypeId}
theorem findAsking_run (K : KeyLaw P k ek) (a : κ) (w : World) : ∀ (m : List (κ × ν × Nat)) (i : Nat),
  (Instr.findAsking k (ek a) (m.map (ment ek ev)) i).run P w = .ok (match m.findIdx? (fun x => decide (a = x.1)) with | some j => (m[j]?).map fun x => (i + j, ev x.2.1) | none => none) w
 | [], i => by simp [Instr.findAsking]
 | x :: q, i => by
  have hq : (Op.equal k (ek a) (ment ek ev x).key).run P w = .ok (decide (a = x.1)) w := K.eq a x.1 w
  simp only [List.map_cons, Instr.findAsking, Sem.run_bind, hq, Result.andThen_ok]
  by_cases h : a = x.1
  ·simp [h, List.findIdx?_cons, ment]
  ·simp only [h, decide_false, Bool.false_eq_true, if_false]
   have ih := findAsking_run K a w q (i + 1)
   rw [ih, List.findIdx?_cons]
   simp only [h, decide_false, Bool.false_eq_true, if_false]
   cases hq : q.findIdx? (fun x => decide (a = x.1)) with
   | none => simp
   | some j =>
    have hj : j < q.length := by
     have := List.findIdx?_eq_some_iff_findIdx_eq.1 hq
     omega
    simp [List.getElem?_eq_getElem hj]
    omega
theorem findNow_run {d : TypeDesc} (hn : ∀ a b, Instr.sameNow d (ek a) (ek b) = some (decide (a = b))) (a : κ) : ∀ (m : List (κ × ν × Nat)) (i : Nat),
  Instr.findNow d (ek a) (m.map (ment ek ev)) i = some (match m.findIdx? (fun x => decide (a = x.1)) with | some j => (m[j]?).map fun x => (i + j, ev x.2.1) | none => none)
 | [], i => by simp [Instr.findNow]
 | x :: q, i => by
  have hx : Instr.sameNow d (ek a) (ment ek ev x).key = some (decide (a = x.1)) := hn a x.1
  simp only [List.map_cons, Instr.findNow, hx]
  by_cases h : a = x.1
  ·simp [h, List.findIdx?_cons, ment]
  ·simp only [h, decide_false]
   rw [findNow_run hn a q (i + 1), List.findIdx?_cons]
   simp only [h, decide_false, Bool.false_eq_true, if_false]
   cases hq : q.findIdx? (fun x => decide (a = x.1)) with
   | none => simp
   | some j =>
    have hj : j < q.length := by
     have := List.findIdx?_eq_some_iff_findIdx_eq.1 hq
     omega
    simp [List.getElem?_eq_getElem hj]
    omega
theorem findKey_run (K : KeyLaw P k ek) (a : κ) (w : World) (m : List (κ × ν × Nat)) :
  (Instr.findKey k (ek a) (m.map (ment ek ev))).run P w = .ok (match m.findIdx? (fun x => decide (a = x.1)) with | some j => (m[j]?).map fun x => (j, ev x.2.1) | none => none) w := by
 obtain ⟨d, hd, hn | hn⟩ := K.und
 ·unfold Instr.findKey
  simp only [Sem.run_bind, run_underlying hd, Result.andThen_ok]
  cases m with
  | nil => simp [Instr.findNow]
  | cons x q =>
   have : Instr.findNow d (ek a) ((x :: q).map (ment ek ev)) 0 = none := by simp [Instr.findNow, ment, hn]
   rw [this]
   have h := findAsking_run (ev := ev) K a w (x :: q) 0
   simpa using h
 ·unfold Instr.findKey
  simp only [Sem.run_bind, run_underlying hd, Result.andThen_ok]
  rw [findNow_run hn a m 0]
  simp only [Nat.zero_add]
  rfl
theorem mget_idx (a : κ) : ∀ m : List (κ × ν × Nat), mget a m = match m.findIdx? (fun x => decide (a = x.1)) with | some j => (m[j]?).map fun x => x.2.1 | none => none
 | [] => by simp [mget]
 | x :: q => by
  unfold mget
  by_cases h : a = x.1
  ·simp [h, List.findIdx?_cons]
  ·rw [if_neg h, mget_idx a q, List.findIdx?_cons]
   simp only [h, decide_false, Bool.false_eq_true, if_false]
   cases q.findIdx? (fun x => decide (a = x.1)) <;> simp
theorem mput_idx (a : κ) (v : ν) (c : Nat) : ∀ m : List (κ × ν × Nat), mput a v c m = match m.findIdx? (fun x => decide (a = x.1)) with | some j => m.modify j (fun x => (a, v, x.2.2)) | none => m ++ [(a, v, c)]
 | [] => by simp [mput]
 | x :: q => by
  unfold mput
  by_cases h : a = x.1
  ·simp [h, List.findIdx?_cons, List.modify]
  ·rw [if_neg h, mput_idx a v c q, List.findIdx?_cons]
   simp only [h, decide_false, Bool.false_eq_true, if_false]
   cases q.findIdx? (fun x => decide (a = x.1)) <;> simp
theorem idx_mem (a : κ) (m : List (κ × ν × Nat)) : (m.findIdx? (fun x => decide (a = x.1))).isSome = decide (a ∈ mkeys m) := by
 rw [List.findIdx?_isSome]
 rw [Bool.eq_iff_iff]
 simp only [List.any_eq_true, decide_eq_true_eq, mkeys, List.mem_map]
 exact ⟨fun ⟨x, h, e⟩ => ⟨x, h, e.symm⟩, fun ⟨x, h, e⟩ => ⟨x, h, e.symm⟩⟩
theorem MapAt.look (h : MapAt ek ev w r m c) (K : KeyLaw P k ek) (ht : P.underlying t = some (.map k e)) {z : Value} (hz : (zeroValue e).run P w = .ok z w) (a : κ) :
  (Instr.lookup t (.map (some r)) (ek a) false).run P w = .ok (match mget a m with | some v => ev v | none => z) w := by
 simp only [Instr.lookup, Sem.run_bind, run_underlying ht, Result.andThen_ok, MapKept.run_getObj_map h, K.ok, findKey_run (ev := ev) K a, Sem.run_pure]
 rw [mget_idx]
 cases hq : m.findIdx? (fun x => decide (a = x.1)) with
 | none => simp [hz]
 | some j =>
  have hj : j < m.length := by
   have := List.findIdx?_eq_some_iff_findIdx_eq.1 hq
   omega
  simp [List.getElem?_eq_getElem hj]
theorem MapAt.put (h : MapAt ek ev w r m c) (K : KeyLaw P k ek) (ht : P.underlying t = some (.map k e)) (a : κ) (v : ν) :
  (Instr.mapUpdate t (.map (some r)) (ek a) (ev v)).run P w = .ok () (setBlock w r (.map ((mput a v c m).map (ment ek ev)).toArray (mclk a m c))) := by
 simp only [Instr.mapUpdate, Sem.run_bind, run_underlying ht, Result.andThen_ok, MapKept.run_getObj_map h, K.ok, findKey_run (ev := ev) K a]
 have hi := idx_mem a m
 rw [mput_idx]
 unfold mclk
 cases hq : m.findIdx? (fun x => decide (a = x.1)) with
 | none =>
  rw [hq] at hi
  have hn : a ∉ mkeys m := by simpa using hi
  simp [MapKept.run_setObj_map _ h, setBlock, hn, ment]
 | some j =>
  rw [hq] at hi
  have hn : a ∈ mkeys m := by simpa using hi
  have hj : j < m.length := by
   have := List.findIdx?_eq_some_iff_findIdx_eq.1 hq
   omega
  have ha : a = (m[j]).1 := by
   obtain ⟨hp, hb⟩ := List.findIdx?_eq_some_iff_getElem.1 hq
   simpa using hb.1
  have hk : (Instr.keyThatStays (ek a) (ek a)).run P w = .ok (ek a) w := by simp [Instr.keyThatStays, K.same]
  have hke : ek (m[j]).1 = ek a := by rw [← ha]
  simp only [List.getElem?_eq_getElem hj, Option.map_some, Sem.run_bind, List.getElem?_toArray, List.getElem?_map, Option.getD_some, ment, hke, hk, Result.andThen_ok, MapKept.run_setObj_map _ h, setBlock, hn, if_true]
  congr 4
  apply Array.ext'
  rw [Array.toList_modify]
  apply List.ext_getElem?
  intro i
  simp only [List.getElem?_modify, List.getElem?_map]
  by_cases hij : j = i
  ·subst hij; simp [List.getElem?_eq_getElem hj, ment]
  ·simp [hij]
omit [DecidableEq κ] in
theorem MapAt.len (h : MapAt ek ev w r m c) (ht : P.underlying t = some (.map k e)) (ty : TypeId) :
  (Builtin.len_ #[t] ty #[.map (some r)]).run P w = .ok (.int .i64 m.length) w := by
 simp [Builtin.len_, run_underlying ht, MapKept.run_getObj_map h, goInt]
end
end Go.Proofs.YtkkefahobjlagaaGreatDoor

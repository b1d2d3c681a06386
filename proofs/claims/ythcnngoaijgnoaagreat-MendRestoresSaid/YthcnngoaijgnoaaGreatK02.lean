/- Maps as lists of entries: what a look-up, a store, a delete and the length of a map come to, for keys that are told apart by value. Conditions: 'KeyLaw' of the key's type. -/
import Derived.Test.YthcnngoaijgnoaaGreatK01
import Derived.ChangeMaps4
import Derived.MapKept
import Derived.Laws.OwnMore
import Derived.Laws.AppendOwnNone
import Derived.OwnWalk
namespace Go.Proofs.YthcnngoaijgnoaaGreat
open Go.RowKit Go.ChangeMaps

/-! ## plain: a list of entries (key, value, stamp) -/
def mkeys {κ ν : Type} (m : List (κ × ν × Nat)) : List κ := m.map (·.1)
/-- keys are told apart, and so are stamps, which are below the clock -/
structure MOk {κ ν : Type} (m : List (κ × ν × Nat)) (c : Nat) : Prop where
  keys : (mkeys m).Nodup
  stamps : (m.map (·.2.2)).Nodup
  below : ∀ x ∈ m, x.2.2 < c
theorem MOk.nil_ {κ ν : Type} : MOk ([] : List (κ × ν × Nat)) 0 := ⟨by simp [mkeys], by simp, by simp⟩

section
variable {κ ν : Type} [DecidableEq κ]

def mget (a : κ) : List (κ × ν × Nat) → Option ν
  | [] => none
  | x :: r => if a = x.1 then some x.2.1 else mget a r
def mput (a : κ) (v : ν) (c : Nat) : List (κ × ν × Nat) → List (κ × ν × Nat)
  | [] => [(a, v, c)]
  | x :: r => if a = x.1 then (a, v, x.2.2) :: r else x :: mput a v c r
def mdel (a : κ) : List (κ × ν × Nat) → List (κ × ν × Nat)
  | [] => []
  | x :: r => if a = x.1 then r else x :: mdel a r
def mclk (a : κ) (m : List (κ × ν × Nat)) (c : Nat) : Nat := if a ∈ mkeys m then c else c + 1

theorem mget_none {a : κ} : ∀ {m : List (κ × ν × Nat)}, mget a m = none ↔ a ∉ mkeys m
  | [] => by simp [mget, mkeys]
  | x :: r => by
    unfold mget
    by_cases h : a = x.1
    · simp [h, mkeys]
    · rw [if_neg h, mget_none (m := r)]; simp [mkeys, h]
theorem mget_put (a x : κ) (v : ν) (c : Nat) : ∀ m : List (κ × ν × Nat), mget x (mput a v c m) = if x = a then some v else mget x m
  | [] => by simp [mput, mget]
  | y :: r => by
    unfold mput
    by_cases h : a = y.1
    · subst h
      simp only [if_true, mget]
      split <;> rfl
    · rw [if_neg h]
      simp only [mget, mget_put a x v c r]
      by_cases h1 : x = y.1
      · subst h1; rw [if_pos rfl, if_pos rfl, if_neg (Ne.symm h)]
      · rw [if_neg h1, if_neg h1]
theorem mget_del (a x : κ) : ∀ {m : List (κ × ν × Nat)}, (mkeys m).Nodup → mget x (mdel a m) = if x = a then none else mget x m
  | [], _ => by simp [mdel, mget]
  | y :: r, hn => by
    have hn' : y.1 ∉ mkeys r ∧ (mkeys r).Nodup := by simpa [mkeys] using hn
    unfold mdel
    by_cases h : a = y.1
    · rw [if_pos h]
      by_cases h1 : x = a
      · rw [if_pos h1, h1, h]; exact mget_none.2 hn'.1
      · rw [if_neg h1]; simp only [mget]; rw [if_neg (by rw [← h]; exact h1)]
    · rw [if_neg h]
      simp only [mget, mget_del a x hn'.2]
      by_cases h1 : x = y.1
      · subst h1; rw [if_pos rfl, if_pos rfl, if_neg (Ne.symm h)]
      · rw [if_neg h1, if_neg h1]
theorem mkeys_put (a : κ) (v : ν) (c : Nat) : ∀ m : List (κ × ν × Nat), mkeys (mput a v c m) = if a ∈ mkeys m then mkeys m else mkeys m ++ [a]
  | [] => by simp [mput, mkeys]
  | y :: r => by
    unfold mput
    by_cases h : a = y.1
    · simp [h, mkeys]
    · rw [if_neg h]
      have ih := mkeys_put a v c r
      have e : (a ∈ mkeys (y :: r)) = (a ∈ mkeys r) := by simp [mkeys, h]
      show y.1 :: mkeys (mput a v c r) = if a ∈ mkeys (y :: r) then y.1 :: mkeys r else y.1 :: mkeys r ++ [a]
      rw [ih]
      by_cases h2 : a ∈ mkeys r
      · rw [if_pos h2, if_pos (by rw [e]; exact h2)]
      · rw [if_neg h2, if_neg (by rw [e]; exact h2)]; rfl
theorem mkeys_del (a : κ) : ∀ m : List (κ × ν × Nat), mkeys (mdel a m) = (mkeys m).erase a
  | [] => by simp [mdel, mkeys]
  | y :: r => by
    unfold mdel
    by_cases h : a = y.1
    · simp [h, mkeys]
    · rw [if_neg h]
      have ih := mkeys_del a r
      simp only [mkeys, List.map_cons] at ih ⊢
      rw [ih, List.erase_cons_tail (by simpa using Ne.symm h)]
theorem mdel_sub (a : κ) : ∀ m : List (κ × ν × Nat), (mdel a m).Sublist m
  | [] => by simp [mdel]
  | y :: r => by
    unfold mdel
    split
    · exact List.sublist_cons_self _ _
    · exact (mdel_sub a r).cons_cons _
theorem mput_stamps (a : κ) (v : ν) (c : Nat) : ∀ m : List (κ × ν × Nat), (mput a v c m).map (·.2.2) = if a ∈ mkeys m then m.map (·.2.2) else m.map (·.2.2) ++ [c]
  | [] => by simp [mput, mkeys]
  | y :: r => by
    unfold mput
    by_cases h : a = y.1
    · simp [h, mkeys]
    · rw [if_neg h]
      have ih := mput_stamps a v c r
      have e : (a ∈ mkeys (y :: r)) = (a ∈ mkeys r) := by simp [mkeys, h]
      rw [List.map_cons, ih]
      by_cases h2 : a ∈ mkeys r
      · rw [if_pos h2, if_pos (by rw [e]; exact h2)]; rfl
      · rw [if_neg h2, if_neg (by rw [e]; exact h2)]; rfl
theorem MOk.put {m : List (κ × ν × Nat)} {c : Nat} (h : MOk m c) (a : κ) (v : ν) : MOk (mput a v c m) (mclk a m c) := by
  refine ⟨?_, ?_, ?_⟩
  · rw [mkeys_put]
    split
    · exact h.keys
    · rename_i hn
      rw [List.nodup_append]
      exact ⟨h.keys, by simp, fun x hx y hy => by
        obtain rfl : y = a := by simpa using hy
        rintro rfl; exact hn hx⟩
  · rw [mput_stamps]
    split
    · exact h.stamps
    · rw [List.nodup_append]
      refine ⟨h.stamps, by simp, fun x hx y hy => ?_⟩
      obtain rfl : y = c := by simpa using hy
      rintro rfl
      obtain ⟨z, hz, e⟩ := List.mem_map.1 hx
      have := h.below z hz
      omega
  · intro x hx
    have hm : x.2.2 ∈ (mput a v c m).map (·.2.2) := List.mem_map_of_mem hx
    rw [mput_stamps] at hm
    unfold mclk
    split at hm
    · rename_i hk
      rw [if_pos hk]
      obtain ⟨z, hz, e⟩ := List.mem_map.1 hm
      rw [← e]; exact h.below z hz
    · rename_i hk
      rw [if_neg hk]
      rcases List.mem_append.1 hm with hm | hm
      · obtain ⟨z, hz, e⟩ := List.mem_map.1 hm
        have := h.below z hz
        omega
      · have : x.2.2 = c := by simpa using hm
        omega
theorem MOk.del {m : List (κ × ν × Nat)} {c : Nat} (h : MOk m c) (a : κ) : MOk (mdel a m) c :=
  ⟨by rw [mkeys_del]; exact h.keys.erase a, (List.Sublist.map _ (mdel_sub a m)).nodup h.stamps, fun x hx => h.below x ((mdel_sub a m).subset hx)⟩

end

/-! ## in memory -/
section
variable {κ ν : Type}
def ment (ek : κ → Value) (ev : ν → Value) (x : κ × ν × Nat) : MapEntry := { key := ek x.1, val := ev x.2.1, born := x.2.2 }
/-- block r is a map with the entries m, its clock at c -/
def MapAt (ek : κ → Value) (ev : ν → Value) (w : World) (r : Nat) (m : List (κ × ν × Nat)) (c : Nat) : Prop := w.heap[r]? = some (.map (m.map (ment ek ev)).toArray c)

variable {ek : κ → Value} {ev : ν → Value} {w w' : World} {r : Nat} {m : List (κ × ν × Nat)} {c : Nat} {t e : TypeId}
theorem MapAt.lt (h : MapAt ek ev w r m c) : r < w.heap.size := (Array.getElem?_eq_some_iff.1 h).1
theorem MapAt.below (h : MapAt ek ev w r m c) (hb : Below w.heap.size w w') : MapAt ek ev w' r m c := (hb.block r h.lt).trans h
theorem MapAt.alloc (h : MapAt ek ev w r m c) (o : Obj) : MapAt ek ev (w.alloc o) r m c := (Below.heap_alloc w o r h.lt).trans h
theorem MapAt.drew (h : MapAt ek ev w r m c) : MapAt ek ev w.drew r m c := h
theorem MapAt.set (h : MapAt ek ev w r m c) {p : Addr} (hp : r ≠ p.block) (u : Value) : MapAt ek ev (w.setCell p u) r m c := (Below.heap_setCell w p u r hp).trans h
theorem MapAt.grown {row : Option Nat} (h : MapAt ek ev w r m c) (hg : w.grownBy w' row) (hr : some r ≠ row) : MapAt ek ev w' r m c := (hg.block r h.lt hr).trans h
theorem MapAt.new (w : World) (ek : κ → Value) (ev : ν → Value) : MapAt ek ev (w.alloc (.map #[] 0)) w.heap.size [] 0 := heap_alloc_new w _
theorem MapAt.ne_blk (h : MapAt ek ev w r m c) {g : Nat} {cs : Array Value} (hg : Blk w g t cs) : g ≠ r := by
  rintro rfl
  unfold MapAt at h
  unfold Blk at hg
  rw [h] at hg
  cases hg
theorem MapAt.ne_own (h : MapAt ek ev w r m c) {α : Type} {enc : α → List Value} {sz base : Nat} {v : Value} {l : List α} (ho : Own enc sz base e w v l) : v.ownBlock ≠ some r := by
  rcases ho.2 with ⟨rfl, _⟩ | ⟨g, cap, cur, rfl, _, hh, _⟩
  · simp [Value.ownBlock]
  · intro he
    have : g = r := by simpa [Value.ownBlock] using he
    subst this
    unfold MapAt at h
    rw [h] at hh
    cases hh

end

section
variable {κ ν : Type} [DecidableEq κ]
structure KeyLaw (P : Program) (k : TypeId) (ek : κ → Value) : Prop where
  und : ∃ d, P.underlying k = some d ∧ ∀ a b, Instr.sameNow d (ek a) (ek b) = none
  eq : ∀ a b w, (Op.equal k (ek a) (ek b)).run P w = .ok (decide (a = b)) w
  ok : ∀ e a w, (Instr.checkKey e 10000 k (ek a)).run P w = .ok () w
  same : ∀ a, Instr.sameBits 10000 (ek a) (ek a) = true

variable {ek : κ → Value} {ev : ν → Value} {w w' : World} {r : Nat} {m : List (κ × ν × Nat)} {c : Nat} {P : Program} {k e t : TypeId}

theorem findAsking_run (K : KeyLaw P k ek) (a : κ) (w : World) : ∀ (m : List (κ × ν × Nat)) (i : Nat),
    (Instr.findAsking k (ek a) (m.map (ment ek ev)) i).run P w = .ok (match m.findIdx? (fun x => decide (a = x.1)) with | some j => (m[j]?).map fun x => (i + j, ev x.2.1) | none => none) w
  | [], i => by simp [Instr.findAsking]
  | x :: q, i => by
    have hq : (Op.equal k (ek a) (ment ek ev x).key).run P w = .ok (decide (a = x.1)) w := K.eq a x.1 w
    simp only [List.map_cons, Instr.findAsking, Sem.run_bind, hq, Result.andThen_ok]
    by_cases h : a = x.1
    · simp [h, List.findIdx?_cons, ment]
    · simp only [h, decide_false, Bool.false_eq_true, if_false]
      have ih := findAsking_run K a w q (i + 1)
      rw [ih, List.findIdx?_cons]
      simp only [h, decide_false, Bool.false_eq_true, if_false]
      cases hq : q.findIdx? (fun x => decide (a = x.1)) with
      | none => simp
      | some j =>
        have hj : j < q.length := by
          have := List.findIdx?_eq_some_iff_findIdx_eq.1 hq
          omega
        simp [List.getElem?_eq_getElem hj]
        omega

theorem findKey_run (K : KeyLaw P k ek) (a : κ) (w : World) (m : List (κ × ν × Nat)) :
    (Instr.findKey k (ek a) (m.map (ment ek ev))).run P w = .ok (match m.findIdx? (fun x => decide (a = x.1)) with | some j => (m[j]?).map fun x => (j, ev x.2.1) | none => none) w := by
  obtain ⟨d, hd, hn⟩ := K.und
  unfold Instr.findKey
  simp only [Sem.run_bind, run_underlying hd, Result.andThen_ok]
  cases m with
  | nil => simp [Instr.findNow]
  | cons x q =>
    have : Instr.findNow d (ek a) ((x :: q).map (ment ek ev)) 0 = none := by simp [Instr.findNow, ment, hn]
    rw [this]
    have h := findAsking_run (ev := ev) K a w (x :: q) 0
    simpa using h

theorem mget_idx (a : κ) : ∀ m : List (κ × ν × Nat), mget a m = match m.findIdx? (fun x => decide (a = x.1)) with | some j => (m[j]?).map fun x => x.2.1 | none => none
  | [] => by simp [mget]
  | x :: q => by
    unfold mget
    by_cases h : a = x.1
    · simp [h, List.findIdx?_cons]
    · rw [if_neg h, mget_idx a q, List.findIdx?_cons]
      simp only [h, decide_false, Bool.false_eq_true, if_false]
      cases q.findIdx? (fun x => decide (a = x.1)) <;> simp
theorem mput_idx (a : κ) (v : ν) (c : Nat) : ∀ m : List (κ × ν × Nat), mput a v c m = match m.findIdx? (fun x => decide (a = x.1)) with | some j => m.modify j (fun x => (a, v, x.2.2)) | none => m ++ [(a, v, c)]
  | [] => by simp [mput]
  | x :: q => by
    unfold mput
    by_cases h : a = x.1
    · simp [h, List.findIdx?_cons, List.modify]
    · rw [if_neg h, mput_idx a v c q, List.findIdx?_cons]
      simp only [h, decide_false, Bool.false_eq_true, if_false]
      cases q.findIdx? (fun x => decide (a = x.1)) <;> simp
theorem mdel_idx (a : κ) : ∀ m : List (κ × ν × Nat), mdel a m = match m.findIdx? (fun x => decide (a = x.1)) with | some j => m.eraseIdx j | none => m
  | [] => by simp [mdel]
  | x :: q => by
    unfold mdel
    by_cases h : a = x.1
    · simp [h, List.findIdx?_cons]
    · rw [if_neg h, mdel_idx a q, List.findIdx?_cons]
      simp only [h, decide_false, Bool.false_eq_true, if_false]
      cases q.findIdx? (fun x => decide (a = x.1)) <;> simp
theorem idx_mem (a : κ) (m : List (κ × ν × Nat)) : (m.findIdx? (fun x => decide (a = x.1))).isSome = decide (a ∈ mkeys m) := by
  rw [List.findIdx?_isSome]
  rw [Bool.eq_iff_iff]
  simp only [List.any_eq_true, decide_eq_true_eq, mkeys, List.mem_map]
  exact ⟨fun ⟨x, h, e⟩ => ⟨x, h, e.symm⟩, fun ⟨x, h, e⟩ => ⟨x, h, e.symm⟩⟩

/-- 'm[k]' -/
theorem MapAt.look (h : MapAt ek ev w r m c) (K : KeyLaw P k ek) (ht : P.underlying t = some (.map k e)) {z : Value} (hz : (zeroValue e).run P w = .ok z w) (a : κ) :
    (Instr.lookup t (.map (some r)) (ek a) false).run P w = .ok (match mget a m with | some v => ev v | none => z) w := by
  simp only [Instr.lookup, Sem.run_bind, run_underlying ht, Result.andThen_ok, MapKept.run_getObj_map h, K.ok, findKey_run (ev := ev) K a, Sem.run_pure]
  rw [mget_idx]
  cases hq : m.findIdx? (fun x => decide (a = x.1)) with
  | none => simp [hz]
  | some j =>
    have hj : j < m.length := by
      have := List.findIdx?_eq_some_iff_findIdx_eq.1 hq
      omega
    simp [List.getElem?_eq_getElem hj]

/-- 'm[k] = v' -/
theorem MapAt.put (h : MapAt ek ev w r m c) (K : KeyLaw P k ek) (ht : P.underlying t = some (.map k e)) (a : κ) (v : ν) :
    (Instr.mapUpdate t (.map (some r)) (ek a) (ev v)).run P w = .ok () (setBlock w r (.map ((mput a v c m).map (ment ek ev)).toArray (mclk a m c))) := by
  simp only [Instr.mapUpdate, Sem.run_bind, run_underlying ht, Result.andThen_ok, MapKept.run_getObj_map h, K.ok, findKey_run (ev := ev) K a]
  have hi := idx_mem a m
  rw [mput_idx]
  unfold mclk
  cases hq : m.findIdx? (fun x => decide (a = x.1)) with
  | none =>
    rw [hq] at hi
    have hn : a ∉ mkeys m := by simpa using hi
    simp [MapKept.run_setObj_map _ h, setBlock, hn, ment]
  | some j =>
    rw [hq] at hi
    have hn : a ∈ mkeys m := by simpa using hi
    have hj : j < m.length := by
      have := List.findIdx?_eq_some_iff_findIdx_eq.1 hq
      omega
    have ha : a = (m[j]).1 := by
      obtain ⟨hp, hb⟩ := List.findIdx?_eq_some_iff_getElem.1 hq
      simpa using hb.1
    have hk : (Instr.keyThatStays (ek a) (ek a)).run P w = .ok (ek a) w := by simp [Instr.keyThatStays, K.same]
    have hke : ek (m[j]).1 = ek a := by rw [← ha]
    simp only [List.getElem?_eq_getElem hj, Option.map_some, Sem.run_bind, List.getElem?_toArray, List.getElem?_map, Option.getD_some, ment, hke, hk, Result.andThen_ok, MapKept.run_setObj_map _ h, setBlock, hn, if_true]
    congr 4
    apply Array.ext'
    rw [Array.toList_modify]
    apply List.ext_getElem?
    intro i
    simp only [List.getElem?_modify, List.getElem?_map]
    by_cases hij : j = i
    · subst hij; simp [List.getElem?_eq_getElem hj, ment]
    · simp [hij]

/-- 'delete(m, k)' -/
theorem MapAt.del (h : MapAt ek ev w r m c) (K : KeyLaw P k ek) (ht : P.underlying t = some (.map k e)) (a : κ) (ty t2 : TypeId) :
    (Builtin.delete_ #[t, t2] ty #[.map (some r), ek a]).run P w = .ok (.tuple #[]) (setBlock w r (.map ((mdel a m).map (ment ek ev)).toArray c)) := by
  simp only [Builtin.delete_, List.getElem?_toArray, List.getElem?_cons_zero, List.getElem?_cons_succ, Sem.run_bind, run_underlying ht, Result.andThen_ok, MapKept.run_getObj_map h, K.ok, findKey_run (ev := ev) K a]
  rw [mdel_idx]
  cases hq : m.findIdx? (fun x => decide (a = x.1)) with
  | none => simp [MapKept.run_setObj_map _ h, setBlock]
  | some j =>
    have hj : j < m.length := by
      have := List.findIdx?_eq_some_iff_findIdx_eq.1 hq
      omega
    simp [List.getElem?_eq_getElem hj, MapKept.run_setObj_map _ h, setBlock, map_eraseIdx]

omit [DecidableEq κ] in
theorem MapAt.len (h : MapAt ek ev w r m c) (ht : P.underlying t = some (.map k e)) (ty : TypeId) :
    (Builtin.len_ #[t] ty #[.map (some r)]).run P w = .ok (.int .i64 m.length) w := by
  simp [Builtin.len_, run_underlying ht, MapKept.run_getObj_map h, goInt]
end
end Go.Proofs.YthcnngoaijgnoaaGreat

/- Bars and knots told apart, as values and as keys of maps. Conditions: none. -/
namespace Go.Proofs.YthcnngoaijgnoaaGreat
open Go.RowKit
set_option maxHeartbeats 400000

abbrev bv (x y s : Int) : Value := .agg #[.int .i64 x, .int .i64 y, .int .i64 s]
abbrev kv (x y : Int) : Value := .agg #[.int .i64 x, .int .i64 y]
def bk (b : Bar) : Value := .agg #[.int .i64 b.1, .int .i64 b.2.1, .int .i64 b.2.2]
def kk (k : Knot) : Value := .agg #[.int .i64 k.1, .int .i64 k.2]
def beqB (x y s x' y' s' : Int) : Bool := decide ((x, y, s) = (x', y', s'))
def beqK (x y x' y' : Int) : Bool := decide ((x, y) = (x', y'))
theorem beqB_true {x y s x' y' s' : Int} : beqB x y s x' y' s' = true ↔ (x, y, s) = (x', y', s') := by simp [beqB]
theorem beqK_true {x y x' y' : Int} : beqK x y x' y' = true ↔ (x, y) = (x', y') := by simp [beqK]
theorem beqB_bar (a b : Bar) : beqB a.1 a.2.1 a.2.2 b.1 b.2.1 b.2.2 = decide (a = b) := rfl
theorem beqK_knot (a b : Knot) : beqK a.1 a.2 b.1 b.2 = decide (a = b) := rfl

theorem eqin_bar (d : Nat) (x y s x' y' s' : Int) (w : World) : (Op.equalIn (d + 2) 70 (.agg #[.int .i64 x, .int .i64 y, .int .i64 s]) (.agg #[.int .i64 x', .int .i64 y', .int .i64 s'])).run Tryz.prog w = .ok (beqB x y s x' y' s') w := by
  rw [run_equalIn_struct w (d + 1) 70 _ _ (by kernel_rfl) (by kernel_rfl)]
  unfold beqB
  by_cases h1 : x = x' <;> by_cases h2 : y = y' <;> by_cases h3 : s = s' <;> simp [go_sem, h1, h2, h3]
theorem eqin_knot (d : Nat) (x y x' y' : Int) (w : World) : (Op.equalIn (d + 2) 26 (.agg #[.int .i64 x, .int .i64 y]) (.agg #[.int .i64 x', .int .i64 y'])).run Tryz.prog w = .ok (beqK x y x' y') w := by
  rw [run_equalIn_struct w (d + 1) 26 _ _ (by kernel_rfl) (by kernel_rfl)]
  unfold beqK
  by_cases h1 : x = x' <;> by_cases h2 : y = y' <;> simp [go_sem, h1, h2]
@[go_sem high] theorem eql_bar (x y s x' y' s' : Int) (w : World) : (binOp .eql 70 (.agg #[.int .i64 x, .int .i64 y, .int .i64 s]) (.agg #[.int .i64 x', .int .i64 y', .int .i64 s'])).run Tryz.prog w = .ok (.bool (beqB x y s x' y' s')) w := by
  simp only [binOp]
  simp [Op.equal, Op.maxDepth, eqin_bar 9998]
@[go_sem high] theorem eql_knot (x y x' y' : Int) (w : World) : (binOp .eql 26 (.agg #[.int .i64 x, .int .i64 y]) (.agg #[.int .i64 x', .int .i64 y'])).run Tryz.prog w = .ok (.bool (beqK x y x' y')) w := by
  simp only [binOp]
  simp [Op.equal, Op.maxDepth, eqin_knot 9998]
@[go_sem high] theorem neq_bar (x y s x' y' s' : Int) (w : World) : (binOp .neq 70 (.agg #[.int .i64 x, .int .i64 y, .int .i64 s]) (.agg #[.int .i64 x', .int .i64 y', .int .i64 s'])).run Tryz.prog w = .ok (.bool (!beqB x y s x' y' s')) w := by
  simp only [binOp]
  simp [Op.equal, Op.maxDepth, eqin_bar 9998]
@[go_sem high] theorem neq_knot (x y x' y' : Int) (w : World) : (binOp .neq 26 (.agg #[.int .i64 x, .int .i64 y]) (.agg #[.int .i64 x', .int .i64 y'])).run Tryz.prog w = .ok (.bool (!beqK x y x' y')) w := by
  simp only [binOp]
  simp [Op.equal, Op.maxDepth, eqin_knot 9998]

theorem ck_bar (e : Bool) (n : Nat) (x y s : Int) (w : World) : (Instr.checkKey e (n + 2) 70 (.agg #[.int .i64 x, .int .i64 y, .int .i64 s])).run Tryz.prog w = .ok () w := by
  have h : Tryz.prog.underlying 70 = some (.struct (Tryz.prog.fieldsOf 70)) := by kernel_rfl
  rw [Instr.checkKey]
  simp only [Sem.run_bind, run_underlying h, Result.andThen_ok]
  simp [Instr.checkKey, go_sem]
theorem ck_knot (e : Bool) (n : Nat) (x y : Int) (w : World) : (Instr.checkKey e (n + 2) 26 (.agg #[.int .i64 x, .int .i64 y])).run Tryz.prog w = .ok () w := by
  have h : Tryz.prog.underlying 26 = some (.struct (Tryz.prog.fieldsOf 26)) := by kernel_rfl
  rw [Instr.checkKey]
  simp only [Sem.run_bind, run_underlying h, Result.andThen_ok]
  simp [Instr.checkKey, go_sem]
theorem bar_key : KeyLaw Tryz.prog 70 bk where
  und := ⟨.struct (Tryz.prog.fieldsOf 70), by kernel_rfl, fun _ _ => rfl⟩
  eq a b w := by
    unfold Op.equal Op.maxDepth bk
    exact eqin_bar 9998 _ _ _ _ _ _ w
  ok e a w := by
    exact ck_bar e 9998 _ _ _ w
  same a := by simp [Instr.sameBits, bk]
theorem knot_key : KeyLaw Tryz.prog 26 kk where
  und := ⟨.struct (Tryz.prog.fieldsOf 26), by kernel_rfl, fun _ _ => rfl⟩
  eq a b w := by
    unfold Op.equal Op.maxDepth kk
    exact eqin_knot 9998 _ _ _ _ w
  ok e a w := by
    exact ck_knot e 9998 _ _ w
  same a := by simp [Instr.sameBits, kk]
end Go.Proofs.YthcnngoaijgnoaaGreat

/- The arms of a knot, which of them are missing, and what turns when a bar is added or taken away: plain. Conditions: a bar's side is 1 or -1. -/
namespace Go.Proofs.YthcnngoaijgnoaaGreat

abbrev Legs := Bool × Bool × Bool × Bool
def armB (k : Knot) : Nat → Bar
  | 0 => (k.1, k.2, -1)
  | 1 => (k.1, k.2, 1)
  | 2 => (k.1 - 1, k.2 - 1, 1)
  | _ => (k.1 + 1, k.2 - 1, -1)
def armK (k : Knot) : Nat → Knot
  | 0 => (k.1 - 1, k.2 + 1)
  | 1 => (k.1 + 1, k.2 + 1)
  | 2 => (k.1 - 1, k.2 - 1)
  | _ => (k.1 + 1, k.2 - 1)
def lowK (b : Bar) : Knot := (b.1, b.2.1)
def uppK (b : Bar) : Knot := (b.1 + b.2.2, b.2.1 + 1)
/-- a bar's side is one of the two -/
def Sided (b : Bar) : Prop := b.2.2 = 1 ∨ b.2.2 = -1
def legsAt (D : List Bar) (k : Knot) : Legs := (decide (armB k 0 ∈ D), decide (armB k 1 ∈ D), decide (armB k 2 ∈ D), decide (armB k 3 ∈ D))
def noLegs : Legs := (false, false, false, false)
def cnt (l : Legs) : Nat := l.1.toNat + l.2.1.toNat + l.2.2.1.toNat + l.2.2.2.toNat
def lget (l : Legs) : Nat → Bool
  | 0 => l.1
  | 1 => l.2.1
  | 2 => l.2.2.1
  | _ => l.2.2.2
def legsO (D : List Bar) (k : Knot) : Option Legs := if legsAt D k = noLegs then none else some (legsAt D k)

theorem cnt_zero {l : Legs} : cnt l = 0 ↔ l = noLegs := by
  obtain ⟨a, b, c, d⟩ := l
  revert a b c d; decide
theorem cnt_le (l : Legs) : cnt l ≤ 4 := by
  obtain ⟨a, b, c, d⟩ := l
  revert a b c d; decide
theorem legsO_getD (D : List Bar) (k : Knot) : (legsO D k).getD noLegs = legsAt D k := by
  unfold legsO
  split
  · rename_i h; simp [h]
  · rfl

theorem armB_end {b : Bar} {k : Knot} {a : Nat} (h : armB k a = b) : k = lowK b ∨ k = uppK b := by
  subst h
  match a with
  | 0 => left; rfl
  | 1 => left; rfl
  | 2 => right; simp [armB, uppK]
  | n + 3 => right; simp only [armB, uppK]; ext <;> simp <;> omega
/-- the bars: b is put in, or taken out -/
def dset (D : List Bar) (b : Bar) (m : Bool) : List Bar := if m then (if b ∈ D then D else D ++ [b]) else D.erase b
theorem dset_mem {D : List Bar} (hn : D.Nodup) (b x : Bar) (m : Bool) : x ∈ dset D b m ↔ if x = b then m = true else x ∈ D := by
  unfold dset
  cases m
  · simp only [Bool.false_eq_true, if_false]
    rw [hn.mem_erase_iff]
    by_cases h : x = b <;> simp [h]
  · simp only [if_true]
    by_cases hb : b ∈ D
    · rw [if_pos hb]
      by_cases h : x = b
      · subst h; simp [hb]
      · simp [h]
    · rw [if_neg hb]
      by_cases h : x = b <;> simp [h]
theorem dset_nodup {D : List Bar} (hn : D.Nodup) (b : Bar) (m : Bool) : (dset D b m).Nodup := by
  unfold dset
  cases m
  · exact hn.erase b
  · simp only [if_true]
    split
    · exact hn
    · rename_i h
      rw [List.nodup_append]
      exact ⟨hn, by simp, fun x hx y hy => by
        obtain rfl : y = b := by simpa using hy
        rintro rfl; exact h hx⟩
/-- the legs of a knot with the arms that are b set to m, the first j of them -/
def lupd (k : Knot) (b : Bar) (m : Bool) (j : Nat) (l : Legs) : Legs :=
  (if 0 < j ∧ armB k 0 = b then m else l.1, if 1 < j ∧ armB k 1 = b then m else l.2.1, if 2 < j ∧ armB k 2 = b then m else l.2.2.1, if 3 < j ∧ armB k 3 = b then m else l.2.2.2)
theorem lupd_zero (k : Knot) (b : Bar) (m : Bool) (l : Legs) : lupd k b m 0 l = l := by simp [lupd]
theorem lupd_four {D : List Bar} (hn : D.Nodup) (k : Knot) (b : Bar) (m : Bool) : lupd k b m 4 (legsAt D k) = legsAt (dset D b m) k := by
  unfold lupd legsAt
  have key : ∀ a, (if armB k a = b then m else decide (armB k a ∈ D)) = decide (armB k a ∈ dset D b m) := by
    intro a
    rw [Bool.eq_iff_iff, decide_eq_true_eq, dset_mem hn]
    by_cases h : armB k a = b <;> simp [h]
  simp only [show (0 : Nat) < 4 by omega, show (1 : Nat) < 4 by omega, show (2 : Nat) < 4 by omega, show (3 : Nat) < 4 by omega, true_and, key]
theorem legsAt_other {D : List Bar} (hn : D.Nodup) {b : Bar} {k : Knot} (h1 : k ≠ lowK b) (h2 : k ≠ uppK b) (m : Bool) : legsAt (dset D b m) k = legsAt D k := by
  unfold legsAt
  have key : ∀ a, decide (armB k a ∈ dset D b m) = decide (armB k a ∈ D) := by
    intro a
    rw [Bool.eq_iff_iff, decide_eq_true_eq, decide_eq_true_eq, dset_mem hn]
    have : armB k a ≠ b := fun e => by rcases armB_end e with h | h <;> contradiction
    simp [this]
  simp only [key]
theorem low_ne_upp (b : Bar) : lowK b ≠ uppK b := by
  intro h
  have := congrArg Prod.snd h
  simp [lowK, uppK] at this
  omega
end Go.Proofs.YthcnngoaijgnoaaGreat

/- The arms of a knot, walked. Conditions: knots within a million. -/
namespace Go.Proofs.YthcnngoaijgnoaaGreat
open Go.RowKit
set_option maxHeartbeats 1000000
set_option maxRecDepth 100000

theorem arm_any (x y : Int) (a : Nat) (ha : a < 4) (hx : -1000000 ≤ x ∧ x ≤ 1000000) (hy : -1000000 ≤ y ∧ y ≤ 1000000) (w : World) :
    Calls Tryz.prog 127 #[kv x y, .int .i64 a] w (RV w (.tuple #[bk (armB (x, y) a), kk (armK (x, y) a)])) := by
  obtain rfl | rfl | rfl | rfl : a = 0 ∨ a = 1 ∨ a = 2 ∨ a = 3 := by omega
  · go_enter Tryz.func127, Tryz.ntmps127
    go_wp2
    go_region
    go_wp2
    refine bodyPost_ret (v := .tuple #[.agg #[.int .i64 x, .int .i64 y, .int .i64 (-1)], .agg #[.int .i64 (x - 1), .int .i64 (y + 1)]]) (by simp [results, Tryz.results127, go_sem]) rfl ?_
    exact ⟨rfl, by (repeat (first | exact bl_refl | assumption | (apply bl_then; assumption) | refine bl_alloc ?_ _ | refine bl_drew ?_ | refine bl_drewN ?_ _))⟩
  · go_enter Tryz.func127, Tryz.ntmps127
    go_wp2
    go_region
    go_wp2
    refine bodyPost_ret (v := .tuple #[.agg #[.int .i64 (x), .int .i64 (y), .int .i64 (1)], .agg #[.int .i64 (x + 1), .int .i64 (y + 1)]]) (by simp [results, Tryz.results127, go_sem]) rfl ?_
    exact ⟨rfl, by (repeat (first | exact bl_refl | assumption | (apply bl_then; assumption) | refine bl_alloc ?_ _ | refine bl_drew ?_ | refine bl_drewN ?_ _))⟩
  · go_enter Tryz.func127, Tryz.ntmps127
    go_wp2
    go_region
    go_wp2
    refine bodyPost_ret (v := .tuple #[.agg #[.int .i64 (x - 1), .int .i64 (y - 1), .int .i64 (1)], .agg #[.int .i64 (x - 1), .int .i64 (y - 1)]]) (by simp [results, Tryz.results127, go_sem]) rfl ?_
    exact ⟨rfl, by (repeat (first | exact bl_refl | assumption | (apply bl_then; assumption) | refine bl_alloc ?_ _ | refine bl_drew ?_ | refine bl_drewN ?_ _))⟩
  · go_enter Tryz.func127, Tryz.ntmps127
    go_wp2
    go_region
    go_wp2
    refine bodyPost_ret (v := .tuple #[.agg #[.int .i64 (x + 1), .int .i64 (y - 1), .int .i64 (-1)], .agg #[.int .i64 (x + 1), .int .i64 (y - 1)]]) (by simp [results, Tryz.results127, go_sem]) rfl ?_
    exact ⟨rfl, by (repeat (first | exact bl_refl | assumption | (apply bl_then; assumption) | refine bl_alloc ?_ _ | refine bl_drew ?_ | refine bl_drewN ?_ _))⟩
end Go.Proofs.YthcnngoaijgnoaaGreat

/- How many arms are missing, and by which one the twine goes on, walked. Conditions: an arm's number is below 4. -/
namespace Go.Proofs.YthcnngoaijgnoaaGreat
open Go.RowKit
set_option maxHeartbeats 1000000
set_option maxRecDepth 100000

abbrev lb (a b c d : Bool) : Value := .agg #[.bool a, .bool b, .bool c, .bool d]
def lv (l : Legs) : Value := .agg #[.bool l.1, .bool l.2.1, .bool l.2.2.1, .bool l.2.2.2]
@[go_sem] theorem idx_legs (a b c d : Bool) (k : Nat) (hk : k < 4) (w : World) : (Instr.index 107 (.agg #[.bool a, .bool b, .bool c, .bool d]) (.int .i64 (k : Int))).run Tryz.prog w = .ok (.bool (lget (a, b, c, d) k)) w := by
  obtain rfl | rfl | rfl | rfl : k = 0 ∨ k = 1 ∨ k = 2 ∨ k = 3 := by omega
  all_goals kernel_rfl

def cntTo (l : Legs) : Nat → Nat
  | 0 => 0
  | k + 1 => cntTo l k + (lget l k).toNat
theorem cntTo_four (l : Legs) : cntTo l 4 = cnt l := by simp [cntTo, cnt, lget]
theorem cntTo_le (l : Legs) : ∀ k, cntTo l k ≤ k
  | 0 => Nat.le_refl _
  | k + 1 => by
    have := cntTo_le l k
    have h : (lget l k).toNat ≤ 1 := by cases lget l k <;> decide
    simp only [cntTo]; omega

theorem count_any (a b c d : Bool) (w : World) : Calls Tryz.prog 81 #[lb a b c d] w (RV w (.int .i64 (cnt (a, b, c, d)))) := by
  go_enter Tryz.func81, Tryz.ntmps81
  go_wp2
  go_loop [3, 7] (fun n i => ∃ k : Nat, k ≤ 4 ∧ i = .int .i64 k ∧ n = .int .i64 (cntTo (a, b, c, d) k)) (fun _ i => 4 - (intOf i).toNat)
  case atStart => exact ⟨0, by omega, rfl, rfl⟩
  case round =>
    obtain ⟨k, hk, rfl, rfl⟩ := hrel
    have hc := cntTo_le (a, b, c, d) k
    by_cases hlt : k < 4
    · obtain ⟨g, hg⟩ : ∃ g, lget (a, b, c, d) k = g := ⟨_, rfl⟩
      have hs : Hid (cntTo (a, b, c, d) (k + 1) = cntTo (a, b, c, d) k + g.toNat) := by rw [← hg]; rfl
      cases g
      all_goals
        go_wp2
        go_round
        case rel => exact ⟨k + 1, by omega, by go_num, by rw [hs.out]; simp⟩
        case measure => simp [intOf]; omega
    · have hk4 : k = 4 := by omega
      have hf : Hid (cntTo (a, b, c, d) k = cnt (a, b, c, d)) := by rw [hk4]; exact cntTo_four _
      clear hk4
      go_wp2
      go_ret
      exact ⟨ret_int (by rw [hf.out]), by (repeat (first | exact bl_refl | assumption | (apply bl_then; assumption) | refine bl_alloc ?_ _ | refine bl_drew ?_ | refine bl_drewN ?_ _))⟩

def oddL (l : Legs) : Bool := cnt l % 2 == 1
theorem odd_any (a b c d : Bool) (w : World) : Calls Tryz.prog 128 #[lb a b c d] w (RV w (.bool (oddL (a, b, c, d)))) := by
  have hc := cnt_le (a, b, c, d)
  go_enter Tryz.func128, Tryz.ntmps128
  go_wp2_with (go_at_call 81; refine (count_any _ _ _ _ _).mono ?_; rintro e w1 ⟨rfl, hb1⟩)
  go_ret
  refine ⟨ret_bool ?_, by (repeat (first | exact bl_refl | assumption | (apply bl_then; assumption) | refine bl_alloc ?_ _ | refine bl_drew ?_ | refine bl_drewN ?_ _))⟩
  unfold oddL
  rw [Bool.eq_iff_iff]
  simp
  omega

/-- the arm by which the twine goes on that came by another one -/
def onw (l : Legs) (b : Nat) : Nat :=
  if cnt l = 4 then b ^^^ 1 else if l.1 = true ∧ b ≠ 0 then 0 else if l.2.1 = true ∧ b ≠ 1 then 1 else if l.2.2.1 = true ∧ b ≠ 2 then 2 else if l.2.2.2 = true ∧ b ≠ 3 then 3 else b
/-- .. of the arms from one on -/
def onwFrom (l : Legs) (b k : Nat) : Nat :=
  if k ≤ 0 ∧ l.1 = true ∧ b ≠ 0 then 0 else if k ≤ 1 ∧ l.2.1 = true ∧ b ≠ 1 then 1 else if k ≤ 2 ∧ l.2.2.1 = true ∧ b ≠ 2 then 2 else if k ≤ 3 ∧ l.2.2.2 = true ∧ b ≠ 3 then 3 else b
theorem onwFrom_hit {l : Legs} {b k : Nat} (hk : k < 4) (h : lget l k = true) (hb : b ≠ k) : onwFrom l b k = k := by
  obtain rfl | rfl | rfl | rfl : k = 0 ∨ k = 1 ∨ k = 2 ∨ k = 3 := by omega
  all_goals simp [lget] at h; simp [onwFrom, h, hb]
theorem onwFrom_miss {l : Legs} {b k : Nat} (hk : k < 4) (h : ¬ (lget l k = true ∧ b ≠ k)) : onwFrom l b k = onwFrom l b (k + 1) := by
  obtain rfl | rfl | rfl | rfl : k = 0 ∨ k = 1 ∨ k = 2 ∨ k = 3 := by omega
  all_goals
    simp [lget] at h
    simp [onwFrom]
    intro h1 h2
    exact absurd (h h1) h2
theorem xor_one (b : Nat) (hb : b < 4) : bits .xor .i64 (b : Int) 1 = ((b ^^^ 1 : Nat) : Int) := by
  obtain rfl | rfl | rfl | rfl : b = 0 ∨ b = 1 ∨ b = 2 ∨ b = 3 := by omega
  all_goals decide

theorem onward_any (a b c d : Bool) (y : Nat) (hy : y < 4) (w : World) : Calls Tryz.prog 129 #[lb a b c d, .int .i64 y] w (RV w (.int .i64 (onw (a, b, c, d) y))) := by
  have hB := Blk.new w 107 #[.bool a, .bool b, .bool c, .bool d]
  by_cases h4 : cnt (a, b, c, d) = 4
  · have hx := xor_one y hy
    have H : Hid (onw (a, b, c, d) y = y ^^^ 1) := by unfold onw; rw [if_pos h4]; rfl
    have h4' : (((cnt (a, b, c, d) : Nat) : Int) == 4) = true := by rw [h4]; rfl
    clear h4
    go_enter Tryz.func129, Tryz.ntmps129
    go_wp2_with (go_at_call 81; refine (count_any _ _ _ _ _).mono ?_; rintro e w1 ⟨rfl, hb1⟩; (first | replace hB := hB.st0 hb1 | replace hB := hB.st1 hb1 | replace hB := hB.std hb1 | replace hB := hB.std1 hb1 | replace hB := hB.st2 hb1 | replace hB := hB.std2 hb1 | replace hB := hB.st3 hb1); have kB := hB.facts)
    go_ret
    exact ⟨ret_int (by rw [H.out]), by (repeat (first | exact bl_refl | assumption | (apply bl_then; assumption) | refine bl_alloc ?_ _ | refine bl_drew ?_ | refine bl_drewN ?_ _))⟩
  · have H : Hid (onw (a, b, c, d) y = onwFrom (a, b, c, d) y 0) := by unfold onw; rw [if_neg h4]; simp [onwFrom, Hid]
    have h4' : (((cnt (a, b, c, d) : Nat) : Int) == 4) = false := by simp; omega
    clear h4
    go_enter Tryz.func129, Tryz.ntmps129
    go_wp2_with (go_at_call 81; refine (count_any _ _ _ _ _).mono ?_; rintro e w1 ⟨rfl, hb1⟩; (first | replace hB := hB.st0 hb1 | replace hB := hB.st1 hb1 | replace hB := hB.std hb1 | replace hB := hB.std1 hb1 | replace hB := hB.st2 hb1 | replace hB := hB.std2 hb1 | replace hB := hB.st3 hb1); have kB := hB.facts)
    go_loop [13] (fun i => ∃ k : Nat, k ≤ 4 ∧ i = .int .i64 k ∧ Hid (onw (a, b, c, d) y = onwFrom (a, b, c, d) y k)) (fun i => 4 - (intOf i).toNat)
    case atStart => exact ⟨0, by omega, rfl, H⟩
    case round =>
      obtain ⟨k, hk, rfl, H2⟩ := hrel
      by_cases hlt : k < 4
      · obtain ⟨g, hg⟩ : ∃ g, lget (a, b, c, d) k = g := ⟨_, rfl⟩
        by_cases hky : y = k
        · have hky' : ((k : Int) != (y : Int)) = false := by simp [hky]
          have hN : Hid (onwFrom (a, b, c, d) y k = onwFrom (a, b, c, d) y (k + 1)) := onwFrom_miss hlt (by simp [hky])
          clear hky
          cases g
          all_goals
            go_wp2
            go_round
            case rel => exact ⟨k + 1, by omega, by go_num, by rw [H2.out, hN.out]; rfl⟩
            case measure => simp [intOf]; omega
        · have hky' : ((k : Int) != (y : Int)) = true := by simp; omega
          cases g
          · have hN : Hid (onwFrom (a, b, c, d) y k = onwFrom (a, b, c, d) y (k + 1)) := onwFrom_miss hlt (by simp [hg])
            go_wp2
            go_round
            case rel => exact ⟨k + 1, by omega, by go_num, by rw [H2.out, hN.out]; rfl⟩
            case measure => simp [intOf]; omega
          · have hN : Hid (onwFrom (a, b, c, d) y k = k) := onwFrom_hit hlt hg hky
            go_wp2
            go_ret
            exact ⟨ret_int (by rw [H2.out, hN.out]), by (repeat (first | exact bl_refl | assumption | (apply bl_then; assumption) | refine bl_alloc ?_ _ | refine bl_drew ?_ | refine bl_drewN ?_ _))⟩
      · have hk4 : k = 4 := by omega
        have hN : Hid (onwFrom (a, b, c, d) y k = y) := by rw [hk4]; simp [onwFrom, Hid]
        clear hk4
        go_wp2
        go_ret
        exact ⟨ret_int (by rw [H2.out, hN.out]), by (repeat (first | exact bl_refl | assumption | (apply bl_then; assumption) | refine bl_alloc ?_ _ | refine bl_drew ?_ | refine bl_drewN ?_ _))⟩

theorem mends_any (x y s : Int) (hx : -1000000 ≤ x ∧ x ≤ 1000000) (hy : -1000000 ≤ y ∧ y ≤ 1000000) (hs : -10 ≤ s ∧ s ≤ 10) (w : World) :
    Calls Tryz.prog 101 #[.agg #[.int .i64 x, .int .i64 y, .int .i64 s]] w (RV w (.agg #[.int .i64 x, .int .i64 y, .int .i64 (x + s), .int .i64 (y + 1)])) := by
  go_enter Tryz.func101, Tryz.ntmps101
  go_wp2
  refine bodyPost_ret (v := .agg #[.int .i64 x, .int .i64 y, .int .i64 (x + s), .int .i64 (y + 1)]) (by simp [results, Tryz.results101, go_sem]) rfl ?_
  exact ⟨rfl, by (repeat (first | exact bl_refl | assumption | (apply bl_then; assumption) | refine bl_alloc ?_ _ | refine bl_drew ?_ | refine bl_drewN ?_ _))⟩
end Go.Proofs.YthcnngoaijgnoaaGreat

/- The hole of missing bars in memory; a bar is put in or taken out. Conditions: bars within a million, sides 1 or -1. -/
namespace Go.Proofs.YthcnngoaijgnoaaGreat
open Go.RowKit Go.ChangeMaps
set_option maxHeartbeats 2000000
set_option maxRecDepth 100000

def yes (b : Bool) : Value := .bool b
/-- below w's heap's size the blocks that are not in S are as they were -/
structure Chg (S : List Nat) (w w' : World) : Prop where
  os : w'.os = w.os
  tape : w'.tape = w.tape
  output : w'.output = w.output
  size : w.heap.size ≤ w'.heap.size
  block : ∀ k, k < w.heap.size → k ∉ S → w'.heap[k]? = w.heap[k]?
section
variable {S : List Nat} {w w' w1 W : World}
theorem Chg.refl : Chg S w w := ⟨rfl, rfl, rfl, Nat.le_refl _, fun _ _ _ => rfl⟩
theorem Chg.of_below (h : Below w.heap.size w w') : Chg S w w' := ⟨h.os, h.tape, h.output, h.size, fun k hk _ => h.block k hk⟩
theorem Chg.trans (h : Chg S w W) (h' : Chg S W w1) : Chg S w w1 :=
  ⟨h'.os.trans h.os, h'.tape.trans h.tape, h'.output.trans h.output, Nat.le_trans h.size h'.size, fun k hk hn => (h'.block k (Nat.lt_of_lt_of_le hk h.size) hn).trans (h.block k hk hn)⟩
theorem Chg.alloc (h : Chg S w W) (o : Obj) : Chg S w (W.alloc o) := h.trans (Chg.of_below (bl_alloc bl_refl o))
theorem Chg.drew (h : Chg S w W) : Chg S w W.drew := h.trans (Chg.of_below (bl_drew bl_refl))
theorem Chg.drewN (h : Chg S w W) (n : Nat) : Chg S w (W.drewN n) := h.trans (Chg.of_below (bl_drewN bl_refl n))
theorem Chg.then_ (hb : Below W.heap.size W w1) (h : Chg S w W) : Chg S w w1 := h.trans (Chg.of_below hb)
theorem Chg.set (h : Chg S w W) {p : Addr} (hp : w.heap.size ≤ p.block) (u : Value) : Chg S w (W.setCell p u) :=
  ⟨h.os, h.tape, h.output, Nat.le_trans h.size (by simp [World.setCell]), fun k hk hn => (Below.heap_setCell W p u k (by omega)).trans (h.block k hk hn)⟩
theorem heap_stb (W : World) {r k : Nat} (o : Obj) (h : k ≠ r) : (setBlock W r o).heap[k]? = W.heap[k]? := by
  simp [ChangeMaps.setBlock, Array.getElem?_setIfInBounds_ne (Ne.symm h)]
theorem Chg.setBlock (h : Chg S w W) {r : Nat} (hr : r ∈ S) (o : Obj) : Chg S w (setBlock W r o) :=
  ⟨h.os, h.tape, h.output, Nat.le_trans h.size (by simp [ChangeMaps.setBlock]), fun k hk hn => (heap_stb W o (fun e => hn (by rw [e]; exact hr))).trans (h.block k hk hn)⟩
theorem Chg.below {B : Nat} (h : Chg S w W) (hS : ∀ k ∈ S, B ≤ k) (hB : B ≤ w.heap.size) : Below B w W :=
  ⟨h.os, h.tape, h.output, h.size, fun k hk => h.block k (by omega) (fun hm => by have := hS k hm; omega)⟩
theorem Chg.mono {S' : List Nat} (h : Chg S w W) (hS : ∀ k ∈ S, k ∈ S') : Chg S' w W := ⟨h.os, h.tape, h.output, h.size, fun k hk hn => h.block k hk (fun hm => hn (hS k hm))⟩
theorem Blk.chg {g : Nat} {t : TypeId} {cs : Array Value} (h : Blk w g t cs) (hc : Chg S w w') (hg : g ∉ S) : Blk w' g t cs := (hc.block g h.lt hg).trans h
end

/-- block h is a hole: its maps, in the blocks rb and rk, hold the bars D and their knots -/
structure HoleAt (w : World) (h rb rk : Nat) (D : List Bar) : Prop where
  blk : Blk w h 111 #[.map (some rb), .map (some rk)]
  bars : ∃ mb cb, MapAt bk yes w rb mb cb ∧ MOk mb cb ∧ (∀ b, mget b mb = if b ∈ D then some true else none) ∧ mb.length = D.length
  knots : ∃ mk ck, MapAt kk lv w rk mk ck ∧ MOk mk ck ∧ ∀ k, mget k mk = legsO D k
  nodup : D.Nodup
  apart : rb ≠ rk

theorem blk_ne_map {κ ν : Type} {ek : κ → Value} {ev : ν → Value} {w : World} {g r : Nat} {t : TypeId} {cs : Array Value} {m : List (κ × ν × Nat)} {c : Nat} (h : Blk w g t cs) (hm : MapAt ek ev w r m c) : g ≠ r := by
  rintro rfl
  unfold MapAt at hm
  unfold Blk at h
  rw [h] at hm
  cases hm
theorem HoleAt.ne {w : World} {h rb rk : Nat} {D : List Bar} (H : HoleAt w h rb rk D) {g : Nat} {t : TypeId} {cs : Array Value} (hg : Blk w g t cs) : g ∉ [rb, rk] := by
  obtain ⟨mb, cb, hb, _⟩ := H.bars
  obtain ⟨mk, ck, hk, _⟩ := H.knots
  simp [blk_ne_map hg hb, blk_ne_map hg hk]
theorem HoleAt.below {w w' : World} {h rb rk : Nat} {D : List Bar} (H : HoleAt w h rb rk D) (hb : Below w.heap.size w w') : HoleAt w' h rb rk D := by
  obtain ⟨h1, ⟨mb, cb, h2, h3⟩, ⟨mk, ck, h4, h5⟩, h6, h7⟩ := H
  exact ⟨h1.below hb, ⟨mb, cb, h2.below hb, h3⟩, ⟨mk, ck, h4.below hb, h5⟩, h6, h7⟩

/-! ## map operations with the world behind them under a name -/
section
variable {κ ν : Type} [DecidableEq κ] {ek : κ → Value} {ev : ν → Value} {w : World} {r : Nat} {m : List (κ × ν × Nat)} {c : Nat} {P : Program} {k e t : TypeId}
theorem MapAt.put_ (h : MapAt ek ev w r m c) (K : KeyLaw P k ek) (ht : P.underlying t = some (.map k e)) (a : κ) (v : ν) :
    ∃ w', (Instr.mapUpdate t (.map (some r)) (ek a) (ev v)).run P w = .ok () w' ∧ MapAt ek ev w' r (mput a v c m) (mclk a m c) ∧ Chg [r] w w' := by
  refine ⟨_, h.put K ht a v, ?_, Chg.refl.setBlock (by simp) _⟩
  unfold MapAt setBlock
  simp [h.lt]
theorem MapAt.del_ (h : MapAt ek ev w r m c) (K : KeyLaw P k ek) (ht : P.underlying t = some (.map k e)) (a : κ) (t2 : TypeId) :
    ∃ w', (∀ ty, (Builtin.delete_ #[t, t2] ty #[.map (some r), ek a]).run P w = .ok (.tuple #[]) w') ∧ MapAt ek ev w' r (mdel a m) c ∧ Chg [r] w w' := by
  refine ⟨_, fun ty => h.del K ht a ty t2, ?_, Chg.refl.setBlock (by simp) _⟩
  unfold MapAt setBlock
  simp [h.lt]
end
theorem MapAt.chg {κ ν : Type} {ek : κ → Value} {ev : ν → Value} {w w' : World} {r : Nat} {m : List (κ × ν × Nat)} {c : Nat} {S : List Nat} (h : MapAt ek ev w r m c) (hc : Chg S w w') (hr : r ∉ S) : MapAt ek ev w' r m c := (hc.block r h.lt hr).trans h

/-! ## what stands while a bar is put in -/
structure Ctx (w W : World) (h rb rk b0 bK : Nat) (x y s kx ky : Int) (mb : List (Bar × Bool × Nat)) (cb : Nat) (mk : List (Knot × Legs × Nat)) (ck : Nat) : Prop where
  hole : Blk W h 111 #[.map (some rb), .map (some rk)]
  box : Blk W b0 70 #[.int .i64 x, .int .i64 y, .int .i64 s]
  kbox : Blk W bK 26 #[.int .i64 kx, .int .i64 ky]
  mapB : MapAt bk yes W rb mb cb
  mapK : MapAt kk lv W rk mk ck
  chg : Chg [rb, rk] w W
section
variable {w W W' w1 : World} {h rb rk b0 bK : Nat} {x y s kx ky : Int} {mb : List (Bar × Bool × Nat)} {cb : Nat} {mk : List (Knot × Legs × Nat)} {ck : Nat}
theorem Ctx.below (H : Ctx w W h rb rk b0 bK x y s kx ky mb cb mk ck) (hb : Below W.heap.size W w1) : Ctx w w1 h rb rk b0 bK x y s kx ky mb cb mk ck :=
  ⟨H.hole.below hb, H.box.below hb, H.kbox.below hb, H.mapB.below hb, H.mapK.below hb, H.chg.trans (Chg.of_below hb)⟩
theorem Ctx.set (H : Ctx w W h rb rk b0 bK x y s kx ky mb cb mk ck) {p : Addr} {t : TypeId} {cs : Array Value} (hp : Blk W p.block t cs) (hw : w.heap.size ≤ p.block) (ht1 : t ≠ 111) (ht2 : t ≠ 70) (ht3 : t ≠ 26) (u : Value) :
    Ctx w (W.setCell p u) h rb rk b0 bK x y s kx ky mb cb mk ck := by
  have far : ∀ {g : Nat} {t' : TypeId} {cs' : Array Value}, Blk W g t' cs' → t ≠ t' → g ≠ p.block := fun hg hne e => by
    unfold Blk at hg hp
    rw [e, hp] at hg
    cases hg
    exact hne rfl
  exact ⟨H.hole.far (far H.hole ht1) u, H.box.far (far H.box ht2) u, H.kbox.far (far H.kbox ht3) u, H.mapB.set (Ne.symm (blk_ne_map hp H.mapB)) u, H.mapK.set (Ne.symm (blk_ne_map hp H.mapK)) u, H.chg.set hw u⟩
/-- the map of the knots has turned -/
theorem Ctx.knots (H : Ctx w W h rb rk b0 bK x y s kx ky mb cb mk ck) (hap : rb ≠ rk) (hc : Chg [rk] W w1) {mk' : List (Knot × Legs × Nat)} {ck' : Nat} (hm : MapAt kk lv w1 rk mk' ck') : Ctx w w1 h rb rk b0 bK x y s kx ky mb cb mk' ck' :=
  ⟨H.hole.chg hc (by simp [blk_ne_map H.hole H.mapK]), H.box.chg hc (by simp [blk_ne_map H.box H.mapK]), H.kbox.chg hc (by simp [blk_ne_map H.kbox H.mapK]), H.mapB.chg hc (by simp [hap]), hm, H.chg.trans (hc.mono (by simp))⟩
theorem Ctx.drew (H : Ctx w W h rb rk b0 bK x y s kx ky mb cb mk ck) : Ctx w W.drew h rb rk b0 bK x y s kx ky mb cb mk ck := H.below (bl_drew bl_refl)
end
end Go.Proofs.YthcnngoaijgnoaaGreat

/- A bar is put into the hole or taken out, walked. Conditions: the bar within 200000, its side 1 or -1. -/
namespace Go.Proofs.YthcnngoaijgnoaaGreat
open Go.RowKit Go.ChangeMaps
set_option maxHeartbeats 4000000
set_option maxRecDepth 100000

/-- the knots' legs when the first j ends of b have been set -/
def midLegs (D : List Bar) (b : Bar) (m : Bool) (j : Nat) (k : Knot) : Option Legs :=
  if (0 < j ∧ k = lowK b) ∨ (1 < j ∧ k = uppK b) then legsO (dset D b m) k else legsO D k
theorem zero_legs (w : World) : (zeroValue 107).run Tryz.prog w = .ok (.agg #[.bool false, .bool false, .bool false, .bool false]) w := by kernel_rfl
theorem und_knots : Tryz.prog.underlying 109 = some (.map 26 107) := by kernel_rfl
theorem und_bars : Tryz.prog.underlying 108 = some (.map 70 4) := by kernel_rfl
theorem look_legs {w : World} {rk : Nat} {mk : List (Knot × Legs × Nat)} {ck : Nat} (h : MapAt kk lv w rk mk ck) (x y : Int) :
    (Instr.lookup 109 (.map (some rk)) (.agg #[.int .i64 x, .int .i64 y]) false).run Tryz.prog w =
      .ok (lv ((mget (x, y) mk).getD noLegs)) w := by
  have := h.look knot_key und_knots (zero_legs w) (x, y)
  refine this.trans ?_
  cases mget (x, y) mk <;> rfl

def lcs (l : Legs) : Array Value := #[.bool l.1, .bool l.2.1, .bool l.2.2.1, .bool l.2.2.2]
theorem lcs_get {l : Legs} {a : Nat} (ha : a < 4) : (lcs l)[a]? = some (.bool (lget l a)) := by
  obtain rfl | rfl | rfl | rfl : a = 0 ∨ a = 1 ∨ a = 2 ∨ a = 3 := by omega
  all_goals rfl
theorem lupd_hit {k : Knot} {b : Bar} {m : Bool} {a : Nat} {L : Legs} (ha : a < 4) (h : armB k a = b) : (lcs (lupd k b m a L)).setIfInBounds a (.bool m) = lcs (lupd k b m (a + 1) L) := by
  obtain rfl | rfl | rfl | rfl : a = 0 ∨ a = 1 ∨ a = 2 ∨ a = 3 := by omega
  all_goals simp [lcs, lupd, h]
theorem lupd_miss {k : Knot} {b : Bar} {m : Bool} {a : Nat} {L : Legs} (ha : a < 4) (h : armB k a ≠ b) : lupd k b m (a + 1) L = lupd k b m a L := by
  obtain rfl | rfl | rfl | rfl : a = 0 ∨ a = 1 ∨ a = 2 ∨ a = 3 := by omega
  all_goals simp [lupd, h]
theorem arm_cells (x y : Int) (a : Nat) (ha : a < 4) (hx : -1000000 ≤ x ∧ x ≤ 1000000) (hy : -1000000 ≤ y ∧ y ≤ 1000000) (w : World) :
    Calls Tryz.prog 127 #[.agg #[.int .i64 x, .int .i64 y], .int .i64 a] w (RV w (.tuple #[.agg #[.int .i64 (armB (x, y) a).1, .int .i64 (armB (x, y) a).2.1, .int .i64 (armB (x, y) a).2.2], .agg #[.int .i64 (armK (x, y) a).1, .int .i64 (armK (x, y) a).2]])) :=
  arm_any x y a ha hx hy w

theorem mid_succ (D : List Bar) (b : Bar) (m : Bool) {j : Nat} (hj : j < 2) {kj : Knot} (hk : kj = if j = 0 then lowK b else uppK b) (k : Knot) :
    midLegs D b m (j + 1) k = if k = kj then legsO (dset D b m) k else midLegs D b m j k := by
  unfold midLegs
  subst hk
  obtain rfl | rfl : j = 0 ∨ j = 1 := by omega
  · simp
  · have h2 := low_ne_upp b
    simp
    by_cases h : k = lowK b
    · subst h
      simp [h2]
    · simp [h]
theorem mid_put {D : List Bar} {b : Bar} {m : Bool} {j : Nat} (hj : j < 2) {kj : Knot} (hk : kj = if j = 0 then lowK b else uppK b) {L : Legs} (hL : legsAt (dset D b m) kj = L) (hne : L ≠ noLegs) {mk : List (Knot × Legs × Nat)} {ck : Nat}
    (g : ∀ k, mget k mk = midLegs D b m j k) : Hid (∀ k, mget k (mput kj L ck mk) = midLegs D b m (j + 1) k) := fun k => by
  rw [mget_put, mid_succ D b m hj hk, g k]
  by_cases h : k = kj
  · subst h
    rw [if_pos rfl, if_pos rfl]
    unfold legsO
    rw [hL, if_neg hne]
  · rw [if_neg h, if_neg h]
theorem mid_del {D : List Bar} {b : Bar} {m : Bool} {j : Nat} (hj : j < 2) {kj : Knot} (hk : kj = if j = 0 then lowK b else uppK b) {L : Legs} (hL : legsAt (dset D b m) kj = L) (hz : L = noLegs) {mk : List (Knot × Legs × Nat)} {ck : Nat} (ok : MOk mk ck)
    (g : ∀ k, mget k mk = midLegs D b m j k) : Hid (∀ k, mget k (mdel kj (mput kj L ck mk)) = midLegs D b m (j + 1) k) := fun k => by
  rw [mget_del _ _ (ok.put kj L).keys, mget_put, mid_succ D b m hj hk, g k]
  by_cases h : k = kj
  · subst h
    rw [if_pos rfl, if_pos rfl]
    unfold legsO
    rw [hL, if_pos hz]
  · rw [if_neg h, if_neg h, if_neg h]
theorem mid_two {D : List Bar} (hn : D.Nodup) (b : Bar) (m : Bool) (k : Knot) : midLegs D b m 2 k = legsO (dset D b m) k := by
  unfold midLegs
  by_cases h : k = lowK b ∨ k = uppK b
  · rw [if_pos (by simpa using h)]
  · rw [if_neg (by simpa using h)]
    unfold legsO
    rw [legsAt_other hn (fun e => h (.inl e)) (fun e => h (.inr e))]
theorem mkeys_length {κ ν : Type} (m : List (κ × ν × Nat)) : (mkeys m).length = m.length := by simp [mkeys]
theorem bars_put {D : List Bar} (hn : D.Nodup) {mb : List (Bar × Bool × Nat)} {cb : Nat} (g : ∀ b, mget b mb = if b ∈ D then some true else none) (hl : mb.length = D.length) (b : Bar) :
    (∀ x, mget x (mput b true cb mb) = if x ∈ dset D b true then some true else none) ∧ (mput b true cb mb).length = (dset D b true).length := by
  have hm : b ∈ mkeys mb ↔ b ∈ D := by
    have h1 := @mget_none _ _ _ b mb
    rw [g b] at h1
    by_cases h : b ∈ D <;> simp [h] at h1 ⊢ <;> exact h1
  refine ⟨fun x => ?_, ?_⟩
  · rw [mget_put, g x]
    by_cases h : x = b
    · rw [if_pos h, if_pos ((dset_mem hn b x true).2 (by simp [h]))]
    · rw [if_neg h]
      by_cases hx : x ∈ D
      · rw [if_pos hx, if_pos ((dset_mem hn b x true).2 (by simp [h, hx]))]
      · rw [if_neg hx, if_neg (fun e => hx (by simpa [h] using (dset_mem hn b x true).1 e))]
  · rw [← mkeys_length, mkeys_put, dset, if_pos rfl]
    by_cases hx : b ∈ D
    · rw [if_pos (hm.2 hx), if_pos hx, mkeys_length, hl]
    · rw [if_neg (fun e => hx (hm.1 e)), if_neg hx]
      simp [mkeys_length, hl]
theorem bars_del {D : List Bar} (hn : D.Nodup) {mb : List (Bar × Bool × Nat)} {cb : Nat} (ok : MOk mb cb) (g : ∀ b, mget b mb = if b ∈ D then some true else none) (hl : mb.length = D.length) (b : Bar) :
    (∀ x, mget x (mdel b mb) = if x ∈ dset D b false then some true else none) ∧ (mdel b mb).length = (dset D b false).length := by
  have hm : b ∈ mkeys mb ↔ b ∈ D := by
    have h1 := @mget_none _ _ _ b mb
    rw [g b] at h1
    by_cases h : b ∈ D <;> simp [h] at h1 ⊢ <;> exact h1
  refine ⟨fun x => ?_, ?_⟩
  · rw [mget_del _ _ ok.keys, g x]
    by_cases h : x = b
    · rw [if_pos h, if_neg (fun e => by simpa [h] using (dset_mem hn b x false).1 e)]
    · rw [if_neg h]
      by_cases hx : x ∈ D
      · rw [if_pos hx, if_pos ((dset_mem hn b x false).2 (by simp [h, hx]))]
      · rw [if_neg hx, if_neg (fun e => hx (by simpa [h] using (dset_mem hn b x false).1 e))]
  · rw [← mkeys_length, mkeys_del, dset, if_neg (by simp)]
    by_cases hx : b ∈ D
    · have h1 := @List.length_erase_of_mem _ instBEqOfDecidableEq _ b (mkeys mb) (hm.2 hx)
      rw [mkeys_length, hl] at h1
      exact h1.trans (List.length_erase_of_mem hx).symm
    · have h1 := congrArg List.length (@List.erase_of_not_mem _ instBEqOfDecidableEq _ b (mkeys mb) (mt hm.1 hx))
      rw [mkeys_length, hl] at h1
      exact h1.trans (by rw [List.erase_of_not_mem hx])

theorem set_any (h rb rk : Nat) (D : List Bar) (x y s : Int) (m : Bool) (w : World) (H : HoleAt w h rb rk D) (hx : -200000 ≤ x ∧ x ≤ 200000) (hy : -200000 ≤ y ∧ y ≤ 200000) (hs : s = 1 ∨ s = -1) :
    Calls Tryz.prog 145 #[.pointer (some ⟨h, 0, none⟩), .agg #[.int .i64 x, .int .i64 y, .int .i64 s], .bool m] w
      fun e w' => e = .returned (.tuple #[]) ∧ HoleAt w' h rb rk (dset D (x, y, s) m) ∧ Chg [rb, rk] w w' := by
  obtain ⟨hB, ⟨mb, cb, hmb, okb, gb, lb⟩, ⟨mk, ck, hmk, okk, gk⟩, hn, hap⟩ := H
  have hB0 := Blk.new w 70 #[.int .i64 x, .int .i64 y, .int .i64 s]
  have hs' : -10 ≤ s ∧ s ≤ 10 := by omega
  go_enter Tryz.func145, Tryz.ntmps145
  go_wp2_with (go_at_call 101; refine (mends_any _ _ _ (by omega) (by omega) hs' _).mono ?_; rintro e w1 ⟨rfl, hb1⟩; (first | replace hB0 := hB0.st0 hb1 | replace hB0 := hB0.st1 hb1 | replace hB0 := hB0.std hb1 | replace hB0 := hB0.std1 hb1 | replace hB0 := hB0.st2 hb1 | replace hB0 := hB0.std2 hb1 | replace hB0 := hB0.st3 hb1); have kB0 := hB0.facts; (first | replace hB := hB.st0 hb1 | replace hB := hB.st1 hb1 | replace hB := hB.std hb1 | replace hB := hB.std1 hb1 | replace hB := hB.st2 hb1 | replace hB := hB.std2 hb1 | replace hB := hB.st3 hb1); have kB := hB.facts)
  have hmb1 := hmb.below (bl_a hb1)
  have hmk1 := hmk.below (bl_a hb1)
  have hc1 : Chg [rb, rk] w w1 := Chg.of_below (bl_a hb1)
  clear hmb hmk hb1
  have gk0 : Hid (∀ k, mget k mk = midLegs D (x, y, s) m 0 k) := fun k => by rw [gk k]; simp [midLegs]
  clear gk
  have GB := Lib.hid gb
  have OB := Lib.hid okb
  clear gb okb
  go_loopw [14] (fun i wr => ∃ j : Nat, j ≤ 2 ∧ i = .int .i64 j ∧ Blk wr w.heap.size 70 #[.int .i64 x, .int .i64 y, .int .i64 s] ∧ Blk wr h 111 #[.map (some rb), .map (some rk)] ∧ MapAt bk yes wr rb mb cb ∧ Chg [rb, rk] w wr ∧
      ∃ mk ck, MapAt kk lv wr rk mk ck ∧ MOk mk ck ∧ Hid (∀ k, mget k mk = midLegs D (x, y, s) m j k)) (fun i _ => 2 - (intOf i).toNat)
  case atStart => exact ⟨0, by omega, rfl, hB0, hB, hmb1, hc1, mk, ck, hmk1, okk, gk0⟩
  case round =>
    clear kB kB0 hmk1 hmb1 hc1 hB hB0 gk0 okk
    obtain ⟨j, hj, rfl, hB0, hB, hmb, hch, mk, ck, hmk, okk, gk⟩ := hrel
    have OK := Lib.hid okk
    clear okk
    by_cases hlt : j < 2
    · obtain ⟨kx, ky, hkk, hkb, hidx⟩ : ∃ kx ky : Int, Hid ((kx, ky) = (if j = 0 then lowK (x, y, s) else uppK (x, y, s))) ∧ (-1000000 ≤ kx ∧ kx ≤ 1000000 ∧ -1000000 ≤ ky ∧ ky ≤ 1000000) ∧
          ∀ W, (Instr.index 137 (.agg #[.int .i64 x, .int .i64 y, .int .i64 (x + s), .int .i64 (y + 1)]) (.int .i64 (j : Int))).run Tryz.prog W = .ok (.agg #[.int .i64 kx, .int .i64 ky]) W := by
        obtain rfl | rfl : j = 0 ∨ j = 1 := by omega
        · exact ⟨x, y, rfl, by omega, fun W => idx_ends0 x y (x + s) (y + 1) W⟩
        · exact ⟨x + s, y + 1, rfl, by omega, fun W => idx_ends1 x y (x + s) (y + 1) W⟩
      have fB0 := hB0.facts
      have fB := hB.facts
      have hBk := Blk.new wr 26 #[.int .i64 kx, .int .i64 ky]
      have hC : Ctx w (wr.alloc (.cells #[.int .i64 kx, .int .i64 ky] 26)) h rb rk w.heap.size wr.heap.size x y s kx ky mb cb mk ck :=
        ⟨hB.alloc _, hB0.alloc _, hBk, hmb.alloc _, hmk.alloc _, hch.alloc _⟩
      have fBa := (hB.alloc (.cells #[.int .i64 kx, .int .i64 ky] 26)).facts
      obtain ⟨L, hL⟩ : ∃ L, (mget (kx, ky) mk).getD noLegs = L := ⟨_, rfl⟩
      have hlook : ∀ g : Bel (wr.alloc (.cells #[.int .i64 kx, .int .i64 ky] 26)).heap.size (wr.alloc (.cells #[.int .i64 kx, .int .i64 ky] 26)),
          (Instr.lookup 109 (.map (some rk)) (.agg #[.int .i64 kx, .int .i64 ky]) false).run Tryz.prog g.val = .ok (.agg #[.bool L.1, .bool L.2.1, .bool L.2.2.1, .bool L.2.2.2]) g.val := fun g => by
        rw [look_legs ((hmk.alloc _).below g.below) kx ky, hL]; rfl
      have HL := Lib.hid hL
      clear hL
      go_wp2
      refine wp_region_ords [0, 1, 2, 3, 4, 5] [(6, false)] [7] (by kernel_rfl) (by kernel_rfl) (fun d _ _ _ _ h => by cases d <;> exact h) ?_
      simp only [List.map_cons, List.map_nil, List.getD_cons_zero, List.getD_cons_succ]
      repeat (go_big_quiet_step (fail))
      refine wpQuiet_nil ?_
      clear hlook
      refine wpMid_run rfl (fun K hK => ?_)
      go_simp
      refine hK _ _ (by (repeat (first | exact bl_refl | assumption | (apply bl_then; assumption) | refine bl_alloc ?_ _ | refine bl_drew ?_ | refine bl_drewN ?_ _))) ?_
      clear hK K
      refine wpMid_nil ?_
      go_wp2
      have hCs : w.heap.size ≤ wr.heap.size := hch.size
      obtain ⟨wo, rfl⟩ : ∃ wo : World, wo = wr := ⟨_, rfl⟩
      go_loopw [23] (fun i ws => ∃ a : Nat, a ≤ 4 ∧ i = .int .i64 a ∧ Ctx w ws h rb rk w.heap.size wo.heap.size x y s kx ky mb cb mk ck ∧ Blk ws (wo.heap.size + 1) 107 (lcs (lupd (kx, ky) (x, y, s) m a L))) (fun i _ => 4 - (intOf i).toNat)
      case atStart =>
        refine ⟨0, by omega, rfl, (hC.below (bl_drew (bl_alloc bl_refl _))), ?_⟩
        rw [lupd_zero]
        have := Blk.new (wo.alloc (.cells #[.int .i64 kx, .int .i64 ky] 26)) 107 (lcs L)
        simpa [lcs] using this.drew
      case round =>
        clear hC hBk fB fB0 fBa hB hB0 hmb hmk hch
        obtain ⟨a, ha, rfl, hC, hBl⟩ := hrel
        have fBo := hC.box.facts
        have fBk := hC.kbox.facts
        have fBl := hBl.facts
        by_cases hlt4 : a < 4
        · obtain ⟨g, hg⟩ : ∃ g, beqB (armB (kx, ky) a).1 (armB (kx, ky) a).2.1 (armB (kx, ky) a).2.2 x y s = g := ⟨_, rfl⟩
          go_wp2_with fail
          refine (arm_cells kx ky a hlt4 (by omega) (by omega) _).mono ?_
          rintro e w2 ⟨rfl, hb2⟩
          replace hC := hC.below hb2
          replace hBl := hBl.below hb2
          clear fBo fBk fBl
          have fBo := hC.box.facts
          have fBk := hC.kbox.facts
          have fBl := hBl.facts
          have hwl : w.heap.size ≤ wo.heap.size + 1 := by have := hCs; omega
          cases g
          · have hN : Hid (lupd (kx, ky) (x, y, s) m (a + 1) L = lupd (kx, ky) (x, y, s) m a L) := lupd_miss hlt4 (fun e => (Bool.eq_false_iff.1 hg) (beqB_true.2 e))
            go_wp2
            go_roundw
            case rel => exact ⟨a + 1, by omega, by go_num, (hC.below (by (repeat (first | exact bl_refl | assumption | (apply bl_then; assumption) | refine bl_alloc ?_ _ | refine bl_drew ?_ | refine bl_drewN ?_ _)))), by rw [hN.out]; exact hBl.below (by (repeat (first | exact bl_refl | assumption | (apply bl_then; assumption) | refine bl_alloc ?_ _ | refine bl_drew ?_ | refine bl_drewN ?_ _)))⟩
            case measure => simp [intOf]; omega
          · have hN := lupd_hit (m := m) (L := L) hlt4 (beqB_true.1 hg)
            have HN := Lib.hid hN
            clear hN
            have hla := lcs_get (l := lupd (kx, ky) (x, y, s) m a L) hlt4
            go_wp2
            go_roundw
            case rel => exact ⟨a + 1, by omega, by go_num, ((hC.set (p := ⟨wo.heap.size + 1, a, none⟩) hBl hwl (by decide) (by decide) (by decide) _).below (by (repeat (first | exact bl_refl | assumption | (apply bl_then; assumption) | refine bl_alloc ?_ _ | refine bl_drew ?_ | refine bl_drewN ?_ _)))), by rw [← HN.out]; exact (hBl.set_ a _).below (by (repeat (first | exact bl_refl | assumption | (apply bl_then; assumption) | refine bl_alloc ?_ _ | refine bl_drew ?_ | refine bl_drewN ?_ _)))⟩
            case measure => simp [intOf]; omega
        · obtain rfl : a = 4 := by omega
          obtain ⟨L2, hL2⟩ : ∃ L2, legsAt (dset D (x, y, s) m) (kx, ky) = L2 := ⟨_, rfl⟩
          have hmid : midLegs D (x, y, s) m j (kx, ky) = legsO D (kx, ky) := by
            unfold midLegs
            rw [if_neg]
            rw [hkk.out]
            rintro (⟨h1, h2⟩ | ⟨h1, h2⟩)
            · rw [if_neg (by omega)] at h2; exact low_ne_upp _ h2.symm
            · omega
          have hLL : lupd (kx, ky) (x, y, s) m 4 L = L2 := by
            rw [← HL.out, gk.out (kx, ky), hmid, legsO_getD, lupd_four hn, hL2]
          rw [hLL] at hBl
          have HLL := Lib.hid hL2
          clear hLL hmid hL2 fBl
          have fBl := hBl.facts
          have fBh := hC.hole.facts
          obtain ⟨w3, hput, hmk3, hch3⟩ := hC.drew.mapK.put_ knot_key und_knots (kx, ky) L2
          have hput' : (Instr.mapUpdate 109 (.map (some rk)) (.agg #[.int .i64 kx, .int .i64 ky]) (.agg #[.bool L2.1, .bool L2.2.1, .bool L2.2.2.1, .bool L2.2.2.2])).run Tryz.prog wr.drew = .ok () w3 := hput
          have hla : (lcs L2)[0]? = some (.bool L2.1) ∧ (lcs L2)[1]? = some (.bool L2.2.1) ∧ (lcs L2)[2]? = some (.bool L2.2.2.1) ∧ (lcs L2)[3]? = some (.bool L2.2.2.2) := ⟨rfl, rfl, rfl, rfl⟩
          clear hput
          have hC3 := hC.drew.knots hap hch3 hmk3
          have hBl3 := hBl.drew.chg hch3 (by simp [blk_ne_map hBl hC.mapK])
          have fBo3 := hC3.box.facts
          have fBk3 := hC3.kbox.facts
          have fBl3 := hBl3.facts
          have fBh3 := hC3.hole.facts
          go_wp2
          refine wp_region_ords [0, 1, 2, 3, 4, 5] [] [6] (by kernel_rfl) (by kernel_rfl) (fun d _ _ _ _ h => by cases d <;> exact h) ?_
          simp only [List.map_cons, List.map_nil, List.getD_cons_zero, List.getD_cons_succ]
          repeat (go_big_quiet_step (fail))
          refine wpQuiet_nil ?_
          refine wpMid_nil ?_
          obtain ⟨g, hg⟩ : ∃ g, (((cnt (L2.1, L2.2.1, L2.2.2.1, L2.2.2.2) : Nat) : Int) == 0) = g := ⟨_, rfl⟩
          go_wp2_with fail
          refine (count_any L2.1 L2.2.1 L2.2.2.1 L2.2.2.2 _).mono ?_
          rintro e w4 ⟨rfl, hb4⟩
          have hC4 := hC3.below hb4
          have fBh4 := hC4.hole.facts
          have fBk4 := hC4.kbox.facts
          clear fBo fBk fBl fBo3 fBl3 fBh3 fBk3
          have hk0 := hkk.out
          cases g
          · have hne : L2 ≠ noLegs := fun e => by rw [e] at hg; cases hg
            go_wp2
            go_roundw
            case rel => exact ⟨j + 1, by omega, by go_num, hC4.box, hC4.hole, hC4.mapB, hC4.chg, _, _, hC4.mapK, OK.out.put _ _, mid_put hlt hk0 HLL.out hne gk.out⟩
            case measure => simp [intOf]; omega
          · have hz : L2 = noLegs := cnt_zero.1 (by simpa using hg)
            obtain ⟨w5, hdel, hmk5, hch5⟩ := hC4.drew.mapK.del_ knot_key und_knots (kx, ky) 26
            have hC5 := hC4.drew.knots hap hch5 hmk5
            have hdel' : ∀ ty, (Builtin.delete_ #[109, 26] ty #[.map (some rk), .agg #[.int .i64 kx, .int .i64 ky]]).run Tryz.prog w4.drew = .ok (.tuple #[]) w5 := hdel
            go_wp2
            refine wp_region_ords [0, 1, 2, 3, 4] [] [5] (by kernel_rfl) (by kernel_rfl) (fun d _ _ _ _ h => by cases d <;> exact h) ?_
            simp only [List.map_cons, List.map_nil, List.getD_cons_zero, List.getD_cons_succ]
            repeat (go_big_quiet_step (fail))
            refine wpQuiet_nil ?_
            refine wpMid_nil ?_
            go_wp2
            go_roundw
            case rel => exact ⟨j + 1, by omega, by go_num, hC5.box, hC5.hole, hC5.mapB, hC5.chg, _, _, hC5.mapK, (OK.out.put _ _).del _, mid_del hlt hk0 HLL.out hz OK.out gk.out⟩
            case measure => simp [intOf]; omega
    · obtain rfl : j = 2 := by omega
      have gk2 : ∀ k, mget k mk = legsO (dset D (x, y, s) m) k := fun k => (gk.out k).trans (mid_two hn _ _ _)
      have fB0 := hB0.facts
      have fB := hB.facts
      have hnd := dset_nodup hn (x, y, s) m
      clear gk
      have GK := Lib.hid gk2
      clear gk2
      cases m
      · obtain ⟨w5, hdel, hmb5, hch5⟩ := hmb.drew.del_ bar_key und_bars (x, y, s) 70
        have hdel' : ∀ ty, (Builtin.delete_ #[108, 70] ty #[.map (some rb), .agg #[.int .i64 x, .int .i64 y, .int .i64 s]]).run Tryz.prog wr.drew = .ok (.tuple #[]) w5 := hdel
        clear hdel
        go_wp2
        refine wp_region_ords [0, 1, 2, 3, 4] [] [5] (by kernel_rfl) (by kernel_rfl) (fun d _ _ _ _ h => by cases d <;> exact h) ?_
        simp only [List.map_cons, List.map_nil, List.getD_cons_zero, List.getD_cons_succ]
        repeat (go_big_quiet_step (fail))
        refine wpQuiet_nil ?_
        refine wpMid_nil ?_
        go_wp2
        refine bodyPost_end (results_none Tryz.results145 _ _ _) rfl ?_
        obtain ⟨h1, h2⟩ := bars_del hn OB.out GB.out lb (x, y, s)
        exact ⟨rfl, ⟨hB.drew.chg hch5 (by simp [blk_ne_map hB hmb]), ⟨_, _, hmb5, OB.out.del _, h1, h2⟩, ⟨mk, ck, hmk.drew.chg hch5 (by simp [Ne.symm hap]), OK.out, GK.out⟩, hnd, hap⟩, hch.drew.trans (hch5.mono (by simp))⟩
      · obtain ⟨w5, hput, hmb5, hch5⟩ := hmb.drew.put_ bar_key und_bars (x, y, s) true
        have hput' : (Instr.mapUpdate 108 (.map (some rb)) (.agg #[.int .i64 x, .int .i64 y, .int .i64 s]) (.bool true)).run Tryz.prog wr.drew = .ok () w5 := hput
        clear hput
        go_wp2
        refine wp_region_ords [0, 1, 2, 3, 4] [] [5] (by kernel_rfl) (by kernel_rfl) (fun d _ _ _ _ h => by cases d <;> exact h) ?_
        simp only [List.map_cons, List.map_nil, List.getD_cons_zero, List.getD_cons_succ]
        repeat (go_big_quiet_step (fail))
        refine wpQuiet_nil ?_
        refine wpMid_nil ?_
        go_wp2
        refine bodyPost_end (results_none Tryz.results145 _ _ _) rfl ?_
        obtain ⟨h1, h2⟩ := bars_put (cb := cb) hn GB.out lb (x, y, s)
        exact ⟨rfl, ⟨hB.drew.chg hch5 (by simp [blk_ne_map hB hmb]), ⟨_, _, hmb5, OB.out.put _ _, h1, h2⟩, ⟨mk, ck, hmk.drew.chg hch5 (by simp [Ne.symm hap]), OK.out, GK.out⟩, hnd, hap⟩, hch.drew.trans (hch5.mono (by simp))⟩
end Go.Proofs.YthcnngoaijgnoaaGreat

/- Appends to a row of the call's own, of what another slice reads as. Conditions: the length within bounds. -/
namespace Go.Proofs.YthcnngoaijgnoaaGreat
open Go.RowKit
set_option maxHeartbeats 1000000
set_option maxRecDepth 100000

/-- what the table says of an element type -/
structure Elem (P : Program) (t e : TypeId) (sz bytes : Nat) : Prop where
  und : P.underlying t = some (.slice e)
  row : (P.info? e).map (fun i => (i.zero.map (fun z => z.cells.size), i.size, i.bytes)) = some (some sz, sz, bytes)
  pos : 0 < sz

theorem bar_elem : Elem Tryz.prog 22 70 3 24 := ⟨by kernel_rfl, by kernel_rfl, by decide⟩
theorem knot_elem : Elem Tryz.prog 34 26 2 16 := ⟨by kernel_rfl, by kernel_rfl, by decide⟩

section
variable {α : Type} {enc : α → List Value} {sz bytes : Nat} {P : Program} {t e : TypeId} {w : World}
theorem run_app (E : Elem P t e sz bytes) (henc : ∀ x, (enc x).length = sz) (hone : ∀ x, ∀ u ∈ enc x, u.oneCell' = true) (base : Nat) (ty : TypeId) (v u : Value) (l r : List α) (hown : Own enc sz base e w v l) (hu : Sl enc sz w u r)
    (h63 : l.length + r.length ≤ maxLen) (hb : (l.length + r.length) * bytes ≤ 140737488355328) (hbase : base ≤ w.heap.size) :
    ∃ v' w', (Builtin.append_ #[t, t] ty #[v, u]).run P w = .ok v' w' ∧ Own enc sz base e w' v' (l ++ r) ∧ w.grownBy w' v.ownBlock := by
  obtain ⟨hund, hrow, hpos⟩ := E
  obtain ⟨i, hi, hrow⟩ : ∃ i, P.info? e = some i ∧ (i.zero.map (fun z => z.cells.size), i.size, i.bytes) = (some sz, sz, bytes) := by
    cases h : P.info? e with
    | none => rw [h] at hrow; cases hrow
    | some i => rw [h] at hrow; exact ⟨i, rfl, Option.some.inj hrow⟩
  have h1 := congrArg Prod.fst hrow
  have h2 := congrArg (fun x => x.2.1) hrow
  have h3 := congrArg (fun x => x.2.2) hrow
  obtain ⟨z, hz, hzs⟩ : ∃ z, i.zero = some z ∧ z.cells.size = sz := by
    cases h : i.zero with
    | none => rw [h] at h1; cases h1
    | some z => rw [h] at h1; exact ⟨z, rfl, Option.some.inj h1⟩
  obtain ⟨A, c, rfl, hlc, hcm, hr⟩ := hu
  cases A with
  | some ad =>
    have hl : (r.flatMap enc).length = r.length * sz := by
      clear hr hlc hb h63
      induction r with
      | nil => simp
      | cons x r ih => simp [henc, ih, Nat.succ_mul]; omega
    obtain ⟨v', w', q1, q2, q3, _⟩ := run_append_own (P := P) w base t ty e i z sz bytes hund hi hz h2 h3 hzs hpos v l.length (l.flatMap enc) hown ad r.length c (r.flatMap enc) hl (by
      intro j u hj
      have hjl : j < r.length * sz := by rw [← hl]; exact (List.getElem?_eq_some_iff.1 hj).1
      have hk : j / sz < r.length := Nat.div_lt_of_lt_mul (by rw [Nat.mul_comm]; exact hjl)
      obtain ⟨b, off, he, hbl, hc⟩ := hr (j / sz) r[j / sz] (List.getElem?_eq_getElem hk)
      have hm : j % sz < (enc r[j / sz]).length := by rw [henc]; exact Nat.mod_lt _ hpos
      have hj' := flat_get henc r (j / sz) r[j / sz] (j % sz) _ (List.getElem?_eq_getElem hk) (List.getElem?_eq_getElem hm)
      have hdm : j / sz * sz + j % sz = j := by rw [Nat.mul_comm]; exact Nat.div_add_mod j sz
      rw [hdm, hj] at hj'
      have hcj := hc (j % sz) u (by rw [List.getElem?_eq_getElem hm]; exact hj'.symm)
      obtain rfl : ad = ⟨b, off, none⟩ := Option.some.inj he
      rw [Nat.add_assoc, hdm] at hcj
      unfold Addr.add
      split
      · rename_i h0
        subst h0
        exact hcj
      · exact hcj) (by
      intro u hu
      obtain ⟨x, hx, hux⟩ := List.mem_flatMap.1 hu
      exact hone x u hux) h63 hb hbase
    refine ⟨v', w', q1, ?_, q3⟩
    unfold Own
    simpa using q2
  | none =>
    have hr0 : r = [] := by
      cases r with
      | nil => rfl
      | cons x r =>
        obtain ⟨b, off, he, _⟩ := hr 0 x rfl
        cases he
    subst hr0
    refine ⟨v, w, ?_, by simpa using hown, World.grownBy.refl _ _⟩
    rcases hown.2 with ⟨rfl, hn⟩ | ⟨g, cap, cur, rfl, _, _, hnc, _⟩
    · simp [Builtin.append_, run_underlying hund, sizeOf, typeInfo, hi, Builtin.lenOf, Builtin.firstCells]
    · simp [Builtin.append_, run_underlying hund, sizeOf, typeInfo, hi, Builtin.lenOf, Builtin.firstCells, hnc, storeCells]

theorem wpList_app {ops : Array Oper} {rest : List Oper} {o : Oper} {a : Act} {Q : Exit → Act → World → Prop} (hgd : o.guard = none) (E : Elem P t e sz bytes) (henc : ∀ x, (enc x).length = sz) (hone : ∀ x, ∀ u ∈ enc x, u.oneCell' = true) (s x : Operand)
    (ho : o.op = .call { callee := .builtin .append, args := #[s, x], argTypes := #[t, t] }) (base : Nat) (v u : Value) (l r : List α) (hs : a.eval s = v) (hx : a.eval x = u) (hown : Own enc sz base e w v l) (hu : Sl enc sz w u r)
    (h63 : l.length + r.length ≤ maxLen) (hb : (l.length + r.length) * bytes ≤ 140737488355328) (hbase : base ≤ w.heap.size)
    (h : ∀ v' w', Own enc sz base e w' v' (l ++ r) → w.grownBy w' v.ownBlock → wpList P ops Q rest (a.put o.dst v') w') : wpList P ops Q (o :: rest) a w := by
  refine wpList_plain hgd fun K hK' => ?_
  obtain ⟨v', w', hr, h2, h3⟩ := run_app E henc hone base o.type v u l r hown hu h63 hb hbase
  unfold Oper.wp
  simp [execOp, ho, resolve, invoke, builtin, hs, hx, hr, Result.andThen]
  exact hK' _ _ (h v' w' h2 h3)
end

theorem bc_one (b : Bar) : ∀ u ∈ bc b, u.oneCell' = true := by intro u hu; simp [bc] at hu; rcases hu with rfl | rfl | rfl <;> rfl
theorem kc_one (k : Knot) : ∀ u ∈ kc k, u.oneCell' = true := by intro u hu; simp [kc] at hu; rcases hu with rfl | rfl <;> rfl
theorem own_step {α : Type} {enc : α → List Value} {sz : Nat} {e : TypeId} {w W W' w2 : World} {v : Value} {l : List α} (hown : Own enc sz w.heap.size e W v l) (hgr : W'.grownBy w2 v.ownBlock) (hb : Below w.heap.size w W') : Below w.heap.size w w2 :=
  bl_grown hgr hb fun k hk => (hown.lt k hk).1
abbrev SlB := Sl bc 3
abbrev SlK := Sl kc 2
abbrev OwB (base : Nat) := Own bc 3 base 70
abbrev OwK (base : Nat) := Own kc 2 base 26
/-- one element in a block of its own, as 'append(l, x)' lays it -/
theorem Sl.one_bar (w : World) (x y s : Int) : SlB (w.alloc (.cells #[.int .i64 x, .int .i64 y, .int .i64 s] 70)) (.slice (some ⟨w.heap.size, 0, none⟩) 1 1) [(x, y, s)] := by
  have hB := Blk.new w 70 #[.int .i64 x, .int .i64 y, .int .i64 s]
  refine ⟨_, 1, rfl, by simp, by simp [maxLen], fun i b hb => ?_⟩
  match i, hb with
  | 0, hb =>
    obtain rfl : (x, y, s) = b := by simpa using hb
    refine ⟨_, 0, rfl, hB.lt, fun j u hj => ?_⟩
    rw [hB.cell]
    simpa [bc] using hj
theorem Sl.one_knot (w : World) (x y : Int) : SlK (w.alloc (.cells #[.int .i64 x, .int .i64 y] 26)) (.slice (some ⟨w.heap.size, 0, none⟩) 1 1) [(x, y)] := by
  have hB := Blk.new w 26 #[.int .i64 x, .int .i64 y]
  refine ⟨_, 1, rfl, by simp, by simp [maxLen], fun i b hb => ?_⟩
  match i, hb with
  | 0, hb =>
    obtain rfl : (x, y) = b := by simpa using hb
    refine ⟨_, 0, rfl, hB.lt, fun j u hj => ?_⟩
    rw [hB.cell]
    simpa [kc] using hj
section
variable {ops : Array Oper} {rest : List Oper} {o : Oper} {a : Act} {Q : Exit → Act → World → Prop} {base : Nat} {W : World} {v : Value} {X Y S : Int}
theorem wpList_appB {l : List Bar} (hown : OwB base W v l) (hgd : o.guard = none) (s x : Operand) (ho : o.op = .call { callee := .builtin .append, args := #[s, x], argTypes := #[22, 22] })
    (hs : a.eval s = v) (hx : a.eval x = .slice (some ⟨W.heap.size, 0, none⟩) 1 1) (hlen : l.length ≤ 1000000) (hbase : base ≤ W.heap.size)
    (h : ∀ v' w', OwB base w' v' (l ++ [(X, Y, S)]) → (W.alloc (.cells #[.int .i64 X, .int .i64 Y, .int .i64 S] 70)).grownBy w' v.ownBlock → wpList Tryz.prog ops Q rest (a.put o.dst v') w') :
    wpList Tryz.prog ops Q (o :: rest) a (W.alloc (.cells #[.int .i64 X, .int .i64 Y, .int .i64 S] 70)) :=
  wpList_app hgd bar_elem bc_len bc_one s x ho base v _ l [(X, Y, S)] hs hx (hown.alloc _) (Sl.one_bar W X Y S) (by simp [maxLen]; omega) (by simp; omega) (by simp; omega) h
theorem wpList_appK {l : List Knot} (hown : OwK base W v l) (hgd : o.guard = none) (s x : Operand) (ho : o.op = .call { callee := .builtin .append, args := #[s, x], argTypes := #[34, 34] })
    (hs : a.eval s = v) (hx : a.eval x = .slice (some ⟨W.heap.size, 0, none⟩) 1 1) (hlen : l.length ≤ 1000000) (hbase : base ≤ W.heap.size)
    (h : ∀ v' w', OwK base w' v' (l ++ [(X, Y)]) → (W.alloc (.cells #[.int .i64 X, .int .i64 Y] 26)).grownBy w' v.ownBlock → wpList Tryz.prog ops Q rest (a.put o.dst v') w') :
    wpList Tryz.prog ops Q (o :: rest) a (W.alloc (.cells #[.int .i64 X, .int .i64 Y] 26)) :=
  wpList_app hgd knot_elem kc_len kc_one s x ho base v _ l [(X, Y)] hs hx (hown.alloc _) (Sl.one_knot W X Y) (by simp [maxLen]; omega) (by simp; omega) (by simp; omega) h
theorem wpList_appBS {w : World} {u : Value} {l r : List Bar} (hown : OwB base w v l) (hu : SlB w u r) (hgd : o.guard = none) (s x : Operand) (ho : o.op = .call { callee := .builtin .append, args := #[s, x], argTypes := #[22, 22] })
    (hs : a.eval s = v) (hx : a.eval x = u) (hlen : l.length + r.length ≤ 1000000) (hbase : base ≤ w.heap.size)
    (h : ∀ v' w', OwB base w' v' (l ++ r) → w.grownBy w' v.ownBlock → wpList Tryz.prog ops Q rest (a.put o.dst v') w') : wpList Tryz.prog ops Q (o :: rest) a w :=
  wpList_app hgd bar_elem bc_len bc_one s x ho base v u l r hs hx hown hu (by simp [maxLen]; omega) (by omega) hbase h
theorem wpList_appKS {w : World} {u : Value} {l r : List Knot} (hown : OwK base w v l) (hu : SlK w u r) (hgd : o.guard = none) (s x : Operand) (ho : o.op = .call { callee := .builtin .append, args := #[s, x], argTypes := #[34, 34] })
    (hs : a.eval s = v) (hx : a.eval x = u) (hlen : l.length + r.length ≤ 1000000) (hbase : base ≤ w.heap.size)
    (h : ∀ v' w', OwK base w' v' (l ++ r) → w.grownBy w' v.ownBlock → wpList Tryz.prog ops Q rest (a.put o.dst v') w') : wpList Tryz.prog ops Q (o :: rest) a w :=
  wpList_app hgd knot_elem kc_len kc_one s x ho base v u l r hs hx hown hu (by simp [maxLen]; omega) (by omega) hbase h
end
theorem Own.empty {α : Type} (enc : α → List Value) (sz : Nat) (w : World) (e : TypeId) : Own enc sz w.heap.size e (w.alloc (.cells #[] e)) (.slice (some ⟨w.heap.size, 0, none⟩) 0 0) ([] : List α) :=
  ⟨by simp, .inr ⟨w.heap.size, 0, #[], rfl, Nat.le_refl _, heap_alloc_new w _, Nat.le_refl _, by simp [maxLen], by simp, by simp⟩⟩
/-- the call returns a fresh row of bars .. of knots -/
def RB (w : World) (l : List Bar) (e : Ending) (w' : World) : Prop := ∃ v, e = .returned v ∧ OwB w.heap.size w' v l ∧ Below w.heap.size w w'
def RK (w : World) (l : List Knot) (e : Ending) (w' : World) : Prop := ∃ v, e = .returned v ∧ OwK w.heap.size w' v l ∧ Below w.heap.size w w'
end Go.Proofs.YthcnngoaijgnoaaGreat

/- The reference's lists of bars: has, unknown, without, the same, walked. Conditions: the slices read as lists. -/
namespace Go.Proofs.YthcnngoaijgnoaaGreat
open Go.RowKit
set_option maxHeartbeats 2000000
set_option maxRecDepth 100000

/-- a bar is in a list -/
def hasb (l : List Bar) (b : Bar) : Bool := decide (b ∈ l)
theorem hasb_nil (b : Bar) : hasb [] b = false := by simp [hasb]
theorem hasb_drop {l : List Bar} {k : Nat} (hk : k < l.length) (b : Bar) : hasb (l.drop k) b = (beqB l[k].1 l[k].2.1 l[k].2.2 b.1 b.2.1 b.2.2 || hasb (l.drop (k + 1)) b) := by
  rw [List.drop_eq_getElem_cons hk]
  unfold hasb
  rw [Bool.eq_iff_iff, Bool.or_eq_true, decide_eq_true_eq, decide_eq_true_eq, List.mem_cons, beqB_true]
  constructor
  · rintro (h | h)
    · exact .inl h.symm
    · exact .inr h
  · rintro (h | h)
    · exact .inl h.symm
    · exact .inr h

theorem has_any {v : Value} (l : List Bar) (x y s : Int) (w : World) (h : SlB w v l) : Calls Tryz.prog 46 #[v, .agg #[.int .i64 x, .int .i64 y, .int .i64 s]] w (RV w (.bool (hasb l (x, y, s)))) := by
  obtain ⟨A, c, rfl, hlc, hcm, h⟩ := h
  have hl : l.length ≤ maxLen := Nat.le_trans hlc hcm
  unfold maxLen at hl
  have hB := Blk.new w 70 #[.int .i64 x, .int .i64 y, .int .i64 s]
  go_enter Tryz.func46, Tryz.ntmps46
  go_wp2
  go_loopw [5] (fun i wr => ∃ k : Nat, k ≤ l.length ∧ i = .int .i64 k ∧ Hid (hasb l (x, y, s) = hasb (l.drop k) (x, y, s)) ∧ Blk wr w.heap.size 70 #[.int .i64 x, .int .i64 y, .int .i64 s] ∧ Below w.heap.size w wr) (fun i _ => l.length - (intOf i).toNat)
  case atStart => exact ⟨0, Nat.zero_le _, rfl, by simp [Hid], hB, by (repeat (first | exact bl_refl | assumption | (apply bl_then; assumption) | refine bl_alloc ?_ _ | refine bl_drew ?_ | refine bl_drewN ?_ _))⟩
  case round =>
    clear hB
    obtain ⟨k, hk, rfl, H, hB, hbw⟩ := hrel
    by_cases hlt : k < l.length
    · have hr := h.below hbw
      obtain ⟨b, off, rfl, hb, e0, e1, e2⟩ := hr.bar hlt
      have fB := hB.facts
      have HD := Lib.hid (hasb_drop hlt (x, y, s))
      obtain ⟨g, hg⟩ : ∃ g, beqB l[k].1 l[k].2.1 l[k].2.2 x y s = g := ⟨_, rfl⟩
      cases g
      · go_wp2
        refine wp_region_ords [0, 1, 2, 3, 4, 5] [] [] (by kernel_rfl) (by kernel_rfl) (fun d _ _ _ _ h => by cases d <;> exact h) ?_
        simp only [List.map_cons, List.map_nil, List.getD_cons_zero, List.getD_cons_succ]
        repeat (go_big_quiet_step (fail))
        refine wpQuiet_nil ?_
        refine wpMid_nil ?_
        go_wp2
        go_roundw
        case rel => exact ⟨k + 1, by omega, by go_num, by rw [H.out, HD.out, hg]; rfl, hB.below (by (repeat (first | exact bl_refl | assumption | (apply bl_then; assumption) | refine bl_alloc ?_ _ | refine bl_drew ?_ | refine bl_drewN ?_ _))), by (repeat (first | exact bl_refl | assumption | (apply bl_then; assumption) | refine bl_alloc ?_ _ | refine bl_drew ?_ | refine bl_drewN ?_ _))⟩
        case measure => simp [intOf]; omega
      · go_wp2
        refine wp_region_ords [0, 1, 2, 3, 4, 5] [] [] (by kernel_rfl) (by kernel_rfl) (fun d _ _ _ _ h => by cases d <;> exact h) ?_
        simp only [List.map_cons, List.map_nil, List.getD_cons_zero, List.getD_cons_succ]
        repeat (go_big_quiet_step (fail))
        refine wpQuiet_nil ?_
        refine wpMid_nil ?_
        go_wp2
        go_ret
        exact ⟨ret_bool (by rw [H.out, HD.out, hg]; rfl), by (repeat (first | exact bl_refl | assumption | (apply bl_then; assumption) | refine bl_alloc ?_ _ | refine bl_drew ?_ | refine bl_drewN ?_ _))⟩
    · have hkl : k = l.length := by omega
      go_wp2
      go_ret
      refine ⟨ret_bool ?_, by (repeat (first | exact bl_refl | assumption | (apply bl_then; assumption) | refine bl_alloc ?_ _ | refine bl_drew ?_ | refine bl_drewN ?_ _))⟩
      rw [H.out, hkl, List.drop_length, hasb_nil]

/-- a list has a bar that is not in another one -/
def unk (l a : List Bar) : Bool := l.any fun b => !hasb a b
theorem unk_drop {l : List Bar} {k : Nat} (hk : k < l.length) (a : List Bar) : unk (l.drop k) a = (!hasb a l[k] || unk (l.drop (k + 1)) a) := by
  rw [List.drop_eq_getElem_cons hk]
  unfold unk
  rw [List.any_cons]

theorem unknown_any {v u : Value} (l a : List Bar) (w : World) (h : SlB w v l) (ha : SlB w u a) : Calls Tryz.prog 44 #[v, u] w (RV w (.bool (unk l a))) := by
  obtain ⟨A, c, rfl, hlc, hcm, h⟩ := h
  have hl : l.length ≤ maxLen := Nat.le_trans hlc hcm
  unfold maxLen at hl
  go_enter Tryz.func44, Tryz.ntmps44
  go_wp2
  go_loopw [5] (fun i wr => ∃ k : Nat, k ≤ l.length ∧ i = .int .i64 k ∧ Hid (unk l a = unk (l.drop k) a) ∧ Below w.heap.size w wr) (fun i _ => l.length - (intOf i).toNat)
  case atStart => exact ⟨0, Nat.zero_le _, rfl, by simp [Hid], by (repeat (first | exact bl_refl | assumption | (apply bl_then; assumption) | refine bl_alloc ?_ _ | refine bl_drew ?_ | refine bl_drewN ?_ _))⟩
  case round =>
    obtain ⟨k, hk, rfl, H, hbw⟩ := hrel
    by_cases hlt : k < l.length
    · have hr := h.below hbw
      have har := ha.below hbw
      obtain ⟨b, off, rfl, hb, e0, e1, e2⟩ := hr.bar hlt
      have HD := Lib.hid (unk_drop hlt a)
      obtain ⟨g, hg⟩ : ∃ g, hasb a (l[k].1, l[k].2.1, l[k].2.2) = g := ⟨_, rfl⟩
      have hg' : hasb a l[k] = g := hg
      cases g
      · go_wp2_with (go_at_call 46; refine (has_any a _ _ _ _ har).mono ?_; rintro e w1 ⟨rfl, hb1⟩)
        go_ret
        exact ⟨ret_bool (by rw [H.out, HD.out, hg']; rfl), by (repeat (first | exact bl_refl | assumption | (apply bl_then; assumption) | refine bl_alloc ?_ _ | refine bl_drew ?_ | refine bl_drewN ?_ _))⟩
      · go_wp2_with (go_at_call 46; refine (has_any a _ _ _ _ har).mono ?_; rintro e w1 ⟨rfl, hb1⟩)
        go_roundw
        case rel => exact ⟨k + 1, by omega, by go_num, by rw [H.out, HD.out, hg']; rfl, by (repeat (first | exact bl_refl | assumption | (apply bl_then; assumption) | refine bl_alloc ?_ _ | refine bl_drew ?_ | refine bl_drewN ?_ _))⟩
        case measure => simp [intOf]; omega
    · have hkl : k = l.length := by omega
      go_wp2
      go_ret
      refine ⟨ret_bool ?_, by (repeat (first | exact bl_refl | assumption | (apply bl_then; assumption) | refine bl_alloc ?_ _ | refine bl_drew ?_ | refine bl_drewN ?_ _))⟩
      rw [H.out, hkl, List.drop_length]; rfl

/-- the bars of a list that are not in another one -/
def wout (l a : List Bar) : List Bar := l.filter fun b => !hasb a b
theorem wout_take {l : List Bar} {k : Nat} (hk : k < l.length) (a : List Bar) : wout (l.take (k + 1)) a = wout (l.take k) a ++ if hasb a l[k] then [] else [l[k]] := by
  unfold wout
  rw [List.take_succ_eq_append_getElem hk, List.filter_append]
  cases h : hasb a l[k] <;> simp [h]
theorem wout_len (l a : List Bar) : (wout l a).length ≤ l.length := List.length_filter_le _ _

theorem refWithout_any {v u : Value} (l a : List Bar) (w : World) (h : SlB w v l) (ha : SlB w u a) (hlen : l.length ≤ 100000) : Calls Tryz.prog 72 #[v, u] w (RB w (wout l a)) := by
  obtain ⟨A, c, rfl, hlc, hcm, h⟩ := h
  go_enter Tryz.func72, Tryz.ntmps72
  go_wp2
  go_loopw [5, 6] (fun o i wr => ∃ k : Nat, k ≤ l.length ∧ i = .int .i64 k ∧ OwB w.heap.size wr o (wout (l.take k) a) ∧ Below w.heap.size w wr) (fun _ i _ => l.length - (intOf i).toNat)
  case atStart => exact ⟨0, Nat.zero_le _, rfl, Own.nil_, by (repeat (first | exact bl_refl | assumption | (apply bl_then; assumption) | refine bl_alloc ?_ _ | refine bl_drew ?_ | refine bl_drewN ?_ _))⟩
  case round =>
    obtain ⟨k, hk, rfl, hown, hbw⟩ := hrel
    have hwl := wout_len (l.take k) a
    have htl : (l.take k).length ≤ 100000 := by simp; omega
    by_cases hlt : k < l.length
    · have hr := h.below hbw
      have har := ha.below hbw
      obtain ⟨b, off, rfl, hb, e0, e1, e2⟩ := hr.bar hlt
      have HD := Lib.hid (wout_take hlt a)
      obtain ⟨g, hg⟩ : ∃ g, hasb a (l[k].1, l[k].2.1, l[k].2.2) = g := ⟨_, rfl⟩
      have hg' : hasb a l[k] = g := hg
      cases g
      · go_wp2_with (first | (go_at_call 46; refine (has_any a _ _ _ _ har).mono ?_; rintro e w1 ⟨rfl, hb1⟩; (first | replace hown := hown.st0 hb1 | replace hown := hown.st1 hb1 | replace hown := hown.std hb1 | replace hown := hown.std1 hb1 | replace hown := hown.st2 hb1 | replace hown := hown.std2 hb1 | replace hown := hown.st3 hb1); (first | replace hr := hr.st0 hb1 | replace hr := hr.st1 hb1 | replace hr := hr.std hb1 | replace hr := hr.std1 hb1 | replace hr := hr.st2 hb1 | replace hr := hr.std2 hb1 | replace hr := hr.st3 hb1); have f2 := hr.barAt hlt) | (at_builtin; refine wpList_appB hown rfl _ _ rfl rfl rfl (by omega) (Below.size (by (repeat (first | exact bl_refl | assumption | (apply bl_then; assumption) | refine bl_alloc ?_ _ | refine bl_drew ?_ | refine bl_drewN ?_ _)))) ?_; intro v2 w2 hown2 hgr2))
        have hbw2 := own_step hown hgr2 (by (repeat (first | exact bl_refl | assumption | (apply bl_then; assumption) | refine bl_alloc ?_ _ | refine bl_drew ?_ | refine bl_drewN ?_ _)))
        clear hgr2
        go_wp2
        go_roundw
        case rel => exact ⟨k + 1, by omega, by go_num, by rw [HD.out, hg']; exact hown2, by (repeat (first | exact bl_refl | assumption | (apply bl_then; assumption) | refine bl_alloc ?_ _ | refine bl_drew ?_ | refine bl_drewN ?_ _))⟩
        case measure => simp [intOf]; omega
      · go_wp2_with (go_at_call 46; refine (has_any a _ _ _ _ har).mono ?_; rintro e w1 ⟨rfl, hb1⟩; (first | replace hown := hown.st0 hb1 | replace hown := hown.st1 hb1 | replace hown := hown.std hb1 | replace hown := hown.std1 hb1 | replace hown := hown.st2 hb1 | replace hown := hown.std2 hb1 | replace hown := hown.st3 hb1))
        go_roundw
        case rel => exact ⟨k + 1, by omega, by go_num, by rw [HD.out, hg']; simpa using hown, by (repeat (first | exact bl_refl | assumption | (apply bl_then; assumption) | refine bl_alloc ?_ _ | refine bl_drew ?_ | refine bl_drewN ?_ _))⟩
        case measure => simp [intOf]; omega
    · have hkl : k = l.length := by omega
      go_wp2
      go_ret
      exact ⟨_, rfl, by rw [hkl, List.take_length] at hown; exact hown, by (repeat (first | exact bl_refl | assumption | (apply bl_then; assumption) | refine bl_alloc ?_ _ | refine bl_drew ?_ | refine bl_drewN ?_ _))⟩
end Go.Proofs.YthcnngoaijgnoaaGreat

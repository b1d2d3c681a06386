/- 'm[k]++' on a map of value keys, told over its list of entries. Conditions: the map's keys and stamps are distinct. -/
import Derived.Test.YthcnngoaijgnoaaGreatK11
import Derived.Test.YthcnngoaijgnoaaGreatK02
import Derived.WideKeyEntry
namespace Go.Proofs.YthcnngoaijgnoaaGreat
open Go.RowKit Go.ChangeMaps
set_option maxHeartbeats 400000

section
variable {κ ν : Type} [DecidableEq κ]
variable {ek : κ → Value} {ev : ν → Value} {w w' : World} {r : Nat} {m : List (κ × ν × Nat)} {c : Nat} {P : Program} {k e t : TypeId}

/-- the stamp of a key's entry -/
def mstamp (a : κ) (m : List (κ × ν × Nat)) (c : Nat) : Nat := match m.findIdx? (fun x => decide (a = x.1)) with
  | some j => ((m[j]?).map fun x => x.2.2).getD c
  | none => c
theorem MapAt.entry (h : MapAt ek ev w r m c) (K : KeyLaw P k ek) (ht : P.underlying t = some (.map k e)) {z : ν} (hz : (zeroValue e).run P w = .ok (ev z) w) (a : κ) :
    (Instr.mapEntry t (.map (some r)) (ek a)).run P w = .ok (.tuple #[ev ((mget a m).getD z), goInt (mstamp a m c)]) (setBlock w r (.map ((mput a ((mget a m).getD z) c m).map (ment ek ev)).toArray (mclk a m c))) := by
  simp only [Instr.mapEntry, Sem.run_bind, run_underlying ht, Result.andThen_ok, MapKept.run_getObj_map h, K.ok, findKey_run (ev := ev) K a]
  have hi := idx_mem a m
  rw [mput_idx, mget_idx]
  unfold mclk mstamp
  cases hq : m.findIdx? (fun x => decide (a = x.1)) with
  | none =>
    rw [hq] at hi
    have hn : a ∉ mkeys m := by simpa using hi
    simp [MapKept.run_setObj_map _ h, setBlock, hn, ment, hz]
  | some j =>
    rw [hq] at hi
    have hn : a ∈ mkeys m := by simpa using hi
    have hj : j < m.length := by
      have := List.findIdx?_eq_some_iff_findIdx_eq.1 hq
      omega
    have ha : a = (m[j]).1 := by
      obtain ⟨hp, hb⟩ := List.findIdx?_eq_some_iff_getElem.1 hq
      simpa using hb.1
    have hk : (Instr.keyThatStays (ek a) (ek a)).run P w = .ok (ek a) w := by simp [Instr.keyThatStays, K.same]
    have hke : ek (m[j]).1 = ek a := by rw [← ha]
    simp only [List.getElem?_eq_getElem hj, Option.map_some, Sem.run_bind, Sem.run_pure, List.getElem?_toArray, List.getElem?_map, Option.getD_some, ment, hke, hk, Result.andThen_ok, MapKept.run_setObj_map _ h, setBlock, hn, if_true]
    congr 4
    apply Array.ext'
    rw [Array.toList_modify]
    apply List.ext_getElem?
    intro i
    simp only [List.getElem?_modify, List.getElem?_map]
    by_cases hij : j = i
    · subst hij; simp [List.getElem?_eq_getElem hj, ment]
    · simp [hij]
theorem MapAt.estore (h : MapAt ek ev w r m c) (ok : MOk m c) (a : κ) (hn : a ∈ mkeys m) (v : ν) :
    (Instr.entryStore t (.map (some r)) (goInt (mstamp a m c)) (ev v)).run P w = .ok () (setBlock w r (.map ((mput a v c m).map (ment ek ev)).toArray c)) := by
  have hi := idx_mem a m
  rw [mput_idx]
  unfold mstamp
  cases hq : m.findIdx? (fun x => decide (a = x.1)) with
  | none =>
    rw [hq] at hi
    simp [hn] at hi
  | some j =>
    have hj : j < m.length := by
      have := List.findIdx?_eq_some_iff_findIdx_eq.1 hq
      omega
    have ha : a = (m[j]).1 := by
      obtain ⟨hp, hb⟩ := List.findIdx?_eq_some_iff_getElem.1 hq
      simpa using hb.1
    have hst : ((m.map (ment ek ev)).map (·.born)).Nodup := by
      have : (m.map (ment ek ev)).map (·.born) = m.map (·.2.2) := by simp [ment, Function.comp_def]
      rw [this]; exact ok.stamps
    have hidx : ((m.map (ment ek ev)).toArray).findIdx? (fun e => ((e.born : Nat) : Int) == (((m[j]).2.2 : Nat) : Int)) = some j := by
      rw [WideElems.findIdx_arr]
      have := WideElems.findIdx_born (l := m.map (ment ek ev)) (j := j) (e0 := ment ek ev m[j]) hst (by simp [hj])
      simpa [ment] using this
    simp only [Instr.entryStore, Sem.run_bind, MapKept.run_getObj_map h, Result.andThen_ok, List.getElem?_eq_getElem hj, Option.map_some, Option.getD_some]
    simp only [asInt, asIntOf, goInt, Sem.run_bind, Sem.run_pure, Result.andThen_ok, hidx, MapKept.run_setObj_map _ h, setBlock]
    congr 4
    apply Array.ext'
    rw [Array.toList_modify]
    apply List.ext_getElem?
    intro i
    simp only [List.getElem?_modify, List.getElem?_map]
    by_cases hij : j = i
    · subst hij; simp [List.getElem?_eq_getElem hj, ment, ← ha]
    · simp [hij]
theorem mput_mem (a : κ) (v : ν) (c : Nat) (m : List (κ × ν × Nat)) : a ∈ mkeys (mput a v c m) := by
  rw [mkeys_put]
  split
  · assumption
  · simp
theorem mput_put (a : κ) (v v0 : ν) (c c1 : Nat) : ∀ m : List (κ × ν × Nat), mput a v c1 (mput a v0 c m) = mput a v c m
  | [] => by simp [mput]
  | x :: q => by
    by_cases h : a = x.1
    · simp [mput, h]
    · simp [mput, h, mput_put a v v0 c c1 q]
theorem mstamp_put (a : κ) (v : ν) (c c1 : Nat) : ∀ m : List (κ × ν × Nat), mstamp a (mput a v c m) c1 = mstamp a m c
  | [] => by simp [mput, mstamp, List.findIdx?_cons]
  | x :: q => by
    have ih := mstamp_put a v c c1 q
    unfold mput
    by_cases h : a = x.1
    · rw [if_pos h]
      simp [mstamp, List.findIdx?_cons, h]
    · rw [if_neg h]
      have e : ∀ (l : List (κ × ν × Nat)) (d : Nat), mstamp a (x :: l) d = mstamp a l d := fun l d => by
        unfold mstamp
        rw [List.findIdx?_cons]
        simp only [h, decide_false, Bool.false_eq_true, if_false]
        cases l.findIdx? (fun x => decide (a = x.1)) <;> simp
      rw [e, e, ih]
end
end Go.Proofs.YthcnngoaijgnoaaGreat

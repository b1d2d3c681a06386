/- What the statements MendBackwards and MendRestores reckon of walks and runs: plain. Conditions: a torn net that is valid. -/
import Derived.Test.YthcnngoaijgnoaaGreatK11
import Derived.Test.YthcnngoaijgnoaaGreatPpcJ
import Derived.Test.YthcnngoaijgnoaaGreatPpaJ
namespace Go.Proofs.YthcnngoaijgnoaaGreat

section
variable {N D : List Bar} {k : Knot} {L : Nat}
theorem knot_zero (hD : netE D = 0) (h : legsAt D k ≠ noLegs) : knotE k.1 k.2 = 0 := by
  obtain ⟨a, ha, hm⟩ := legs_arm.1 h
  obtain ⟨q1, q2⟩ := barE_ends (netE_all hD _ hm)
  rcases (dart_low (d := (k, a)) ha).1 with e | e
  · have e' : k = lowK (armB k a) := e
    rw [e']; exact q1
  · have e' : k = uppK (armB k a) := e
    rw [e']; exact q2
theorem two_zero (hE : tornE N D = 0) (h : legsAt D k ≠ noLegs) : twoE N D k = 0 := by
  unfold twoE
  rw [hE, knot_zero (torn_nets hE).2 h]; rfl
theorem cnt_ne {n : Nat} (h : cnt (legsAt D k) = n + 1) : legsAt D k ≠ noLegs := fun e => by rw [e] at h; cases h
theorem miss_eq (hE : tornE N D = 0) (h : legsAt D k ≠ noLegs) : missR N D k = (cnt (legsAt D k) : Int) := by
  unfold missR
  rw [if_pos (two_zero hE h)]; rfl
theorem walkE_eq (hE : tornE N D = 0) (h : legsAt D k ≠ noLegs) : walkE N D k = if cnt (legsAt D k) = 1 then 0 else 18 := by
  unfold walkE whenI missN
  rw [if_pos (two_zero hE h)]
  by_cases h1 : cnt (legsAt D k) = 1 <;> simp [h1]
theorem walkR_eq (hE : tornE N D = 0) (h : legsAt D k ≠ noLegs) : walkR N D k = if cnt (legsAt D k) = 1 then walkL D k else [] := by
  unfold walkR
  rw [walkE_eq hE h]
  by_cases h1 : cnt (legsAt D k) = 1 <;> simp [h1]
theorem path_made (hN : netE D = 0) {d : Dart} (hL : 0 < L) (hle : L ≤ D.length) (hok : ∀ t, t < L → (dart D d t).2 < 4 ∧ barD (dart D d t) ∈ D) (hnd : (pathB D d L).Nodup) :
    cwE (pathK D d (L + 1)) = 0 ∧ madeE (pathK D d (L + 1)) = 0 ∧ (∀ x, x ∈ madeL (pathK D d (L + 1)) ↔ x ∈ pathB D d L) ∧ (madeL (pathK D d (L + 1))).Pairwise bltP := by
  have hcw := path_cw hN hL hle hok
  have hp : passP (pathK D d (L + 1)) = pathB D d L := pass_path _ _ fun t ht => (hok t ht).1
  have hm : mkB [] (passP (pathK D d (L + 1))) = some (srtB (pathB D d L)) := by rw [hp, mkB_eq, if_pos hnd]
  have hl : madeL (pathK D d (L + 1)) = srtB (pathB D d L) := by rw [madeL_eq _ hcw, hm]; rfl
  refine ⟨hcw, by rw [madeE_eq, if_pos hcw, hm]; rfl, fun x => by rw [hl, srtB_mem], by rw [hl]; exact srtB_sorted hnd⟩
/-- a walk from a knot with one missing bar -/
structure BackAt (N D : List Bar) (k z : Knot) (W : List Knot) : Prop where
  lo : 2 ≤ W.length
  hi : W.length ≤ D.length + 1
  fst : W[0]? = some k
  lst : W[W.length - 1]? = some z
  cw : cwE W = 0
  made : madeE W = 0
  unk : unk (madeL W) D = false
  two : twoE N D z = 0
  cnt : cnt (legsAt D z) = 1 ∨ cnt (legsAt D z) = 3
  back : Go.Proofs.YthcnngoaijgnoaaGreat.cnt (legsAt D z) = 1 → walkL D z = W.reverse
theorem odd_one_three : ∀ a b c d, oddL (a, b, c, d) = true → cnt (a, b, c, d) = 1 ∨ cnt (a, b, c, d) = 3 := by decide
theorem pathK_get {d : Dart} {n t : Nat} (h : t < n) : (pathK D d n)[t]? = some (dart D d t).1 := by
  unfold pathK
  rw [List.getElem?_map, List.getElem?_range h]; rfl
theorem back_at (hE : tornE N D = 0) (h1 : cnt (legsAt D k) = 1) : ∃ z, BackAt N D k z (walkL D k) := by
  have hD := (torn_nets hE).2
  have ho := one_odd h1
  obtain ⟨ha, hb⟩ := arm0_ok (odd_ne ho)
  obtain ⟨L, hL, hle, hw⟩ := walkL_eq ho
  have hok := fun t (ht : t < L) => dart_ok (n := L - 1) ha hb (fun t h1 h2 => hL.even t h1 (by omega)) t (by omega)
  obtain ⟨q1, q2, q3, _⟩ := path_made hD hL.pos hle hok (pathB_nodup ha hb ho hL.even)
  have hpos := hL.pos
  have hoz : oddL (legsAt D (dart D (k, arm0 D k) L).1) = true := by
    have := hL.odd
    unfold evn at this
    simpa using this
  refine ⟨(dart D (k, arm0 D k) L).1, ?_⟩
  refine ⟨?_, ?_, ?_, ?_, ?_, ?_, ?_, two_zero hE (odd_ne hL.odd), ?_, fun hz => walk_back h1 hL hz⟩
  · rw [hw, pathK_len]; omega
  · rw [hw, pathK_len]; omega
  · rw [hw, pathK_get (by omega)]; rfl
  · rw [hw, pathK_len, pathK_get (by omega)]; rfl
  · rw [hw]; exact q1
  · rw [hw]; exact q2
  · rw [hw]; exact unk_sub fun x hx => pathB_sub ha hb hL.even x ((q3 x).1 hx)
  · generalize legsAt D (dart D (k, arm0 D k) L).1 = l at hoz
    obtain ⟨a, b, c, d⟩ := l
    exact odd_one_three a b c d hoz
/-- the kinds' names tell whether a knot lacks four bars -/
def openL (l : List LegT) (k : Nat) : Bool := (l.take k).any fun x => x.2.1 == 4
theorem openL_succ {l : List LegT} {k : Nat} (hk : k < l.length) : openL l (k + 1) = (openL l k || l[k].2.1 == 4) := by
  unfold openL
  rw [List.take_succ_eq_append_getElem hk, List.any_append]
  simp
theorem openL_new {D : List Bar} (hs : ∀ b ∈ D, Sided b) {l : List LegT} (hl : (holeK D).map (legOf D) = l) : openL l l.length = false ↔ ∀ k, cnt (legsAt D k) ≠ 4 := by
  unfold openL
  rw [List.take_length, ← hl, new_none hs, List.any_eq_false]
  constructor
  · intro h k hk h4
    exact h _ (List.mem_map.2 ⟨k, hk, rfl⟩) (by simpa [legOf] using h4)
  · intro h x hx
    obtain ⟨k, hk, rfl⟩ := List.mem_map.1 hx
    have := h k hk
    simpa [legOf] using this
/-- the run backwards, checked -/
theorem proved_back (hE : tornE N D = 0) {W : List Knot} (hW : runO D = some W) {l : List LegT} (hl : (holeK D).map (legOf D) = l) : provedE N D W.reverse = if openL l l.length then 21 else 0 := by
  have hok := torn_ok hE
  have hs : ∀ b ∈ D, Sided b := fun b hb => (hok.dam.ok b hb).2.2
  obtain ⟨k, L, rfl, R⟩ := run_at hW
  have hz := one_odd R.last
  have hbk := R.back_walk
  have hcw : cwE (walkL D (dart D (k, arm0 D k) L).1) = 0 := by
    obtain ⟨z, hb⟩ := back_at hE R.last
    exact hb.cw
  have hr : rdyB D = true := by unfold rdyB; rw [hW]; rfl
  rw [hbk] at hcw
  obtain ⟨z, hzz⟩ : ∃ z, (dart D (k, arm0 D k) L).1 = z := ⟨_, rfl⟩
  have hlast := R.last
  rw [hzz] at hbk hlast
  have hhead : (pathK D (k, arm0 D k) (L + 1)).reverse = z :: wk D D.length (z, arm0 D z) := by rw [← hbk]; rfl
  have h1 : oneB D (pathK D (k, arm0 D k) (L + 1)).reverse = true := by
    rw [hhead]
    show (cnt (legsAt D z) == 1) = true
    rw [hlast]; rfl
  have h2 : startsB D (pathK D (k, arm0 D k) (L + 1)).reverse = isRunP D (pathK D (k, arm0 D k) (L + 1)).reverse := by
    conv => lhs; rw [hhead]
    show (isRunP D (walkL D z) && decide (walkL D z = z :: _)) = _
    rw [hbk, hhead]; simp
  have hq := R.back
  rw [← openL_new hs hl] at hq
  unfold provedE
  rw [if_pos (by rw [hE, hcw]; rfl), if_pos hr, if_pos h1, h2]
  unfold whenI
  cases ho : openL l l.length
  · rw [hq.2 ho]; rfl
  · have : isRunP D (pathK D (k, arm0 D k) (L + 1)).reverse = false := by
      cases hh : isRunP D (pathK D (k, arm0 D k) (L + 1)).reverse
      · rfl
      · rw [hq.1 hh] at ho; cases ho
    rw [this]; rfl
end
end Go.Proofs.YthcnngoaijgnoaaGreat

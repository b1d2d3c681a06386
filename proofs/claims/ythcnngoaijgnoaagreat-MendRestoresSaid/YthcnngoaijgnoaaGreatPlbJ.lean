/- What the statement MendChecks reckons of the reference's answers: plain. Conditions: none. -/
import Derived.Test.YthcnngoaijgnoaaGreatK11
import Derived.Test.YthcnngoaijgnoaaGreatPlaJ
import Derived.Test.YthcnngoaijgnoaaGreatLw3J
namespace Go.Proofs.YthcnngoaijgnoaaGreat

theorem twine_first (l : List Knot) (a b : Int) : twineE l a b = firstI [cwE l, whenI ((decide (a < 0) || decide (100000 < a)) || (decide (b < 0) || decide (100000 < b))) 3] := by
  unfold twineE withinI
  rw [firstI_two]
  show (if cwE l = 0 then firstI [_, _] else cwE l) = _
  by_cases h : cwE l = 0
  · rw [if_pos h, if_pos h, firstI_two]
    cases decide (a < 0) || decide (100000 < a)
    · rfl
    · rfl
  · rw [if_neg h, if_neg h]
theorem proved_first {N D : List Bar} {l : List Knot} (hs : ∀ b ∈ D, Sided b) (h : firstI [tornE N D, cwE l] = 0) : provedE N D l = firstI [whenI (!rdyB D) 18, whenI (!isRunAny D l) 21] := by
  unfold provedE
  rw [if_pos h, firstI_two]
  cases hr : rdyB D with
  | false => rfl
  | true =>
    rw [isRunAny_eq hs hr l]
    cases oneB D l
    · rfl
    · cases startsB D l <;> rfl
/-- a run passes each missing bar once -/
theorem run_pass {D : List Bar} {l : List Knot} (h1 : oneB D l = true) (h2 : startsB D l = true) : (passP l).Nodup ∧ (∀ x ∈ passP l, x ∈ D) ∧ (passP l).length = D.length := by
  cases l with
  | nil => cases h1
  | cons k r =>
    have hc : cnt (legsAt D k) = 1 := by
      have : (cnt (legsAt D k) == 1) = true := h1
      simpa using this
    have h2' : (isRunP D (walkL D k) && decide (walkL D k = k :: r)) = true := h2
    rw [Bool.and_eq_true, decide_eq_true_eq] at h2'
    have ho : ¬ evn D k := by unfold evn oddL; rw [hc]; simp
    obtain ⟨ha, hb⟩ := arm0_ok (odd_ne ho)
    obtain ⟨L, hL, hle, hw⟩ := walkL_eq ho
    obtain ⟨_, _, hfull⟩ := (isRun_walk ho hL).1 h2'.1
    have hp : passP (k :: r) = pathB D (k, arm0 D k) L := by
      rw [← h2'.2, hw]
      exact pass_path _ _ fun t ht => (dart_ok (n := L - 1) ha hb (fun t h1 h2 => hL.even t h1 (by omega)) t (by omega)).1
    rw [hp]
    exact ⟨pathB_nodup ha hb ho hL.even, pathB_sub ha hb hL.even, by rw [pathB_len, hfull]⟩
theorem proved_run {N D : List Bar} {l : List Knot} (h : provedE N D l = 0) : oneB D l = true ∧ startsB D l = true ∧ rdyB D = true := by
  unfold provedE at h
  split at h
  · split at h
    · rename_i hr
      split at h
      · rename_i h1
        refine ⟨h1, ?_, hr⟩
        cases h2 : startsB D l
        · rw [h2] at h; cases h
        · rfl
      · cases h
    · cases h
  · rename_i h1; exact absurd h h1
theorem wout_sorted {N D : List Bar} (h : N.Pairwise bltP) : (wout N D).Pairwise bltP := h.filter _
theorem rest_tog {N D : List Bar} {l : List Knot} (h : provedE N D l = 0) : restL N D l = tog (wout N D) (madeL l) := by
  obtain ⟨hok, hcw⟩ := proved_zero h
  obtain ⟨h1, h2, _⟩ := proved_run h
  obtain ⟨p1, p2, p3⟩ := run_pass h1 h2
  have hm : madeL l = srtB (passP l) := by rw [madeL_eq l hcw, mkB_eq, if_pos p1]; rfl
  unfold restL
  rw [if_pos h, hm]
  refine srtB_unique ?_ (tog_sorted _ _ (wout_sorted hok.net.sorted)) fun x => by rw [tog_mem, srtB_mem, List.mem_append]
  rw [List.nodup_append]
  refine ⟨sortedB_nodup (wout_sorted hok.net.sorted), p1, fun x hx y hy => ?_⟩
  rintro rfl
  exact (wout_mem.1 hx).2 (p2 _ hy)
end Go.Proofs.YthcnngoaijgnoaaGreat

/- The least trimming: the program's search, with what it leaves out, finds what the reference's finds: plain. Conditions: bars within bounds, each once. -/
import Derived.Test.YthcnngoaijgnoaaGreatK11
import Derived.Test.YthcnngoaijgnoaaGreatPlbJ
import Derived.Test.YthcnngoaijgnoaaGreatRtrJ
namespace Go.Proofs.YthcnngoaijgnoaaGreat

theorem same_len {l r : List Bar} (hl : l.Nodup) (hr : r.Nodup) (h : ∀ b, b ∈ l ↔ b ∈ r) : l.length = r.length :=
  Nat.le_antisymm (length_le_of_sub hl fun x hx => (h x).1 hx) (length_le_of_sub hr fun x hx => (h x).2 hx)
theorem oddK_nodup (D : List Bar) : (oddK D).Nodup := (List.Pairwise.filter _ (holeK_sorted D)).imp fun hab e => by subst e; exact kltP_irr _ hab
theorem oddK_mem {D : List Bar} (hs : ∀ b ∈ D, Sided b) {k : Knot} : k ∈ oddK D ↔ oddL (legsAt D k) = true := by
  unfold oddK
  rw [List.mem_filter, holeK_mem hs]
  constructor
  · exact fun h => h.2
  · exact fun h => ⟨odd_legs h, h⟩
theorem odd_add {D D' : List Bar} {b : Bar} (hs : ∀ x ∈ D, Sided x) (hn : D.Nodup) (hb : Sided b) (h : ∀ x, x ∈ D' ↔ x ∈ D ∨ x = b) : (oddK D).length ≤ (oddK D').length + 2 := by
  have hs' : ∀ x ∈ D', Sided x := fun x hx => by
    rcases (h x).1 hx with h | rfl
    · exact hs x h
    · exact hb
  have := length_le_of_sub (l := oddK D) (D := oddK D' ++ [lowK b, uppK b]) (oddK_nodup D) (fun k hk => by
    by_cases h1 : k = lowK b
    · simp [h1]
    · by_cases h2 : k = uppK b
      · simp [h2]
      · refine List.mem_append_left _ ((oddK_mem hs').2 ?_)
        have e : legsAt D' = legsAt (dset D b true) := legsAt_congr fun x => by
          rw [h, dset_mem hn]
          by_cases e : x = b <;> simp [e]
        rw [e, legsAt_other hn h1 h2]
        exact (oddK_mem hs).1 hk)
  simpa using this
theorem rls_le : ∀ (n : Nat) (D l z : List Bar), rls n D l = some z → n ≤ l.length
  | 0, _, _, _, _ => Nat.zero_le _
  | n + 1, D, l, z, h => by
    unfold rls at h
    induction l with
    | nil => cases h
    | cons x r ih =>
      unfold tryR at h
      split at h
      · rename_i y hy
        have := rls_le n _ _ _ hy
        simp only [List.length_cons]
        omega
      · have := ih h
        simp only [List.length_cons]
        omega
theorem tog_one (D : List Bar) (b x : Bar) : x ∈ tog D [b] ↔ x ∈ D ∨ x = b := by rw [tog_mem]; simp
theorem rdy_odd {D : List Bar} (h : rdyB D = true) : (oddK D).length = 2 := by
  unfold rdyB at h
  by_cases h2 : (oddK D).length = 2
  · exact h2
  · rw [runO_len h2] at h; cases h
theorem rls_odd : ∀ (n : Nat) (D l z : List Bar), D.Pairwise bltP → (∀ b ∈ D, Sided b) → (∀ b ∈ l, Sided b) → rls n D l = some z → (oddK D).length ≤ 2 * n + 2
  | 0, D, l, z, _, _, _, h => by
    unfold rls at h
    split at h
    · rename_i hr; rw [rdy_odd hr]; omega
    · cases h
  | n + 1, D, l, z, hD, hs, hl, h => by
    unfold rls at h
    induction l with
    | nil => cases h
    | cons x r ih =>
      unfold tryR at h
      split at h
      · rename_i y hy
        have hx := hl x (by simp)
        have := rls_odd n (tog D [x]) r y (tog_sorted _ _ hD) (fun b hb => by
          rcases (tog_one D x b).1 hb with h | rfl
          · exact hs b h
          · exact hx) (fun b hb => hl b (by simp [hb])) hy
        have h2 := odd_add hs (sortedB_nodup hD) hx (fun y => tog_one D x y)
        omega
      · exact ih (fun b hb => hl b (by simp [hb])) h
theorem tryR_none {n : Nat} {D : List Bar} : ∀ {l : List Bar}, l.length < n + 1 → tryR (rls n) D l = none
  | [], _ => rfl
  | x :: r, h => by
    unfold tryR
    cases e : rls n (tog D [x]) r with
    | none => exact tryR_none (by simp only [List.length_cons] at h; omega)
    | some z =>
      have := rls_le n _ _ _ e
      simp only [List.length_cons] at h
      omega
theorem srch_rls : ∀ (n : Nat) (D D' l : List Bar), D.Nodup → D'.Pairwise bltP → (∀ b, b ∈ D ↔ b ∈ D') → (∀ b ∈ D, Sided b) → (∀ b ∈ l, Sided b) → l.Nodup → (∀ b ∈ l, b ∉ D) → srch n D l = rls n D' l
  | 0, D, D', l, hD, hD', hm, _, _, _, _ => by
    unfold srch rls rdyB
    rw [runO_congr hm (same_len hD (sortedB_nodup hD') hm)]
  | n + 1, D, D', l, hD, hD', hm, hs, hl, hln, hdis => by
    have hs' : ∀ b ∈ D', Sided b := fun b hb => hs b ((hm b).2 hb)
    have ho : oddK D = oddK D' := by simp only [oddK, holeK_congr hm, legsAt_congr hm]
    unfold srch
    by_cases hp : 2 * (n + 1) + 2 < (oddK D).length
    · rw [if_pos hp]
      cases e : rls (n + 1) D' l with
      | none => rfl
      | some z =>
        have := rls_odd (n + 1) D' l z hD' hs' hl e
        rw [← ho] at this
        omega
    · rw [if_neg hp]
      unfold rls
      clear hp
      induction l with
      | nil => rfl
      | cons b r ih =>
        unfold tryB
        by_cases hr : r.length + 1 < n + 1
        · rw [if_pos hr, tryR_none (by simpa using hr)]
        · rw [if_neg hr]
          unfold tryR
          obtain ⟨hbr, hrn⟩ := List.nodup_cons.1 hln
          have hbD := hdis b (by simp)
          have e : srch n (D ++ [b]) r = rls n (tog D' [b]) r := srch_rls n (D ++ [b]) (tog D' [b]) r
            (List.nodup_append.2 ⟨hD, by simp, fun x hx y hy e => by
              obtain rfl : y = b := by simpa using hy
              subst e
              exact hbD hx⟩)
            (tog_sorted _ _ hD') (fun x => by rw [tog_one, List.mem_append, hm]; simp)
            (fun x hx => by
              rcases List.mem_append.1 hx with h | h
              · exact hs x h
              · obtain rfl : x = b := by simpa using h
                exact hl x (by simp))
            (fun x hx => hl x (by simp [hx])) hrn (fun x hx hm => by
              rcases List.mem_append.1 hm with h | h
              · exact hdis x (by simp [hx]) h
              · obtain rfl : x = b := by simpa using h
                exact hbr hx)
          rw [e]
          cases rls n (tog D' [b]) r with
          | some z => rfl
          | none => exact ih (fun x hx => hl x (by simp [hx])) hrn (fun x hx => hdis x (by simp [hx]))
theorem trimF_rtrF {N D : List Bar} (hok : TornOk N D) : ∀ f n, trimF D (wout N D) f n = rtrF D (wout N D) f n
  | 0, _ => rfl
  | f + 1, n => by
    unfold trimF rtrF
    rw [srch_rls n D D (wout N D) hok.dam.nodup hok.dam.sorted (fun _ => Iff.rfl) (fun b hb => (hok.dam.ok b hb).2.2) (fun b hb => (hok.net.ok b (wout_mem.1 hb).1).2.2) (sortedB_nodup (wout_sorted hok.net.sorted)) (fun b hb => (wout_mem.1 hb).2), trimF_rtrF hok f (n + 1)]
    cases rls n D (wout N D) <;> rfl
end Go.Proofs.YthcnngoaijgnoaaGreat

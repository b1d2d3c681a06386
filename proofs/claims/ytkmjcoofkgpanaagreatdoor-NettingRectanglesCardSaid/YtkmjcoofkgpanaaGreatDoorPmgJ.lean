/- The canonical form of a net moved, plain. Conditions: the net is in its order. -/
import Derived.Test.YtkmjcoofkgpanaaGreatDoorB21
import Derived.Test.YtkmjcoofkgpanaaGreatDoorPmfJ
import Derived.Test.YtkmjcoofkgpanaaGreatDoorPmaJ
namespace Go.Proofs.YtkmjcoofkgpanaaGreatDoor
open Go.RowKit Go.ChangeMaps
set_option maxHeartbeats 4000000
set_option maxRecDepth 100000

theorem bef_self : ∀ l : List Bar, bef l l = false
  | [] => rfl
  | a :: l => by rw [bef, if_pos rfl]; exact bef_self l
theorem bef_trans : ∀ {a b c : List Bar}, a.length = b.length → b.length = c.length → bef a b = true → bef b c = true → bef a c = true
  | [], b, c, _, _, h, _ => by simp [bef] at h
  | x :: a, [], c, h, _, _, _ => by simp at h
  | x :: a, y :: b, [], _, h, _, _ => by simp at h
  | x :: a, y :: b, z :: c, h1, h2, h3, h4 => by
    rw [bef] at h3 h4 ⊢
    by_cases hxy : x = y
    · subst hxy
      rw [if_pos rfl] at h3
      by_cases hxz : x = z
      · rw [if_pos hxz] at h4 ⊢
        exact bef_trans (by simpa using h1) (by simpa using h2) h3 h4
      · rw [if_neg hxz] at h4 ⊢
        exact h4
    · rw [if_neg hxy, decide_eq_true_eq] at h3
      by_cases hyz : y = z
      · subst hyz
        rw [if_neg hxy, decide_eq_true_eq]; exact h3
      · rw [if_neg hyz, decide_eq_true_eq] at h4
        have := bltP_trans h3 h4
        rw [if_neg (fun (e : x = z) => by rw [e] at this; exact bltP_irrefl z this), decide_eq_true_eq]
        exact this
theorem bef_tri : ∀ {a b : List Bar}, a.length = b.length → bef a b = false → a ≠ b → bef b a = true
  | [], [], _, _, h => absurd rfl h
  | [], _ :: _, h, _, _ => by simp at h
  | _ :: _, [], h, _, _ => by simp at h
  | x :: a, y :: b, h, h1, h2 => by
    rw [bef] at h1 ⊢
    by_cases hxy : x = y
    · subst hxy
      rw [if_pos rfl] at h1 ⊢
      exact bef_tri (by simpa using h) h1 fun e => h2 (by rw [e])
    · rw [if_neg hxy, decide_eq_false_iff_not] at h1
      rw [if_neg (fun e => hxy e.symm), decide_eq_true_eq]
      exact blt_tri h1 hxy
theorem bst_bef (l : List Bar) (k : Nat) (hk : 0 < k) : bst l (k + 1) = if bef (nrm (frm l k)) (bst l k) then nrm (frm l k) else bst l k := by
  rw [bst]
  have hl : (nrm (frm l k)).length = (bst l k).length := by rw [nrm_len, frm_len, bst_len_eq l _ hk]
  have hb := bef_cmp hl
  by_cases hc : cmpL (nrm (frm l k)) (bst l k) < 0
  · rw [if_pos (hb.2 hc), if_pos (.inr hc)]
  · rw [if_neg (fun e => hc (hb.1 e)), if_neg (by simp only [not_or]; exact ⟨by omega, hc⟩)]
theorem bst_mem (l : List Bar) : ∀ n, 0 < n → ∃ k, k < n ∧ bst l n = nrm (frm l k)
  | 0, h => by omega
  | 1, _ => ⟨0, by omega, by rw [bst, if_pos (.inl rfl)]⟩
  | n + 2, _ => by
    rw [bst_bef l (n + 1) (by omega)]
    split
    · exact ⟨n + 1, by omega, rfl⟩
    · obtain ⟨k, hk, e⟩ := bst_mem l (n + 1) (by omega)
      exact ⟨k, by omega, e⟩
theorem form_len (l : List Bar) (k : Nat) : (nrm (frm l k)).length = l.length := by rw [nrm_len, frm_len]
theorem bst_min (l : List Bar) : ∀ n, 0 < n → ∀ k, k < n → bef (nrm (frm l k)) (bst l n) = false
  | 0, h, _, _ => by omega
  | 1, _, k, hk => by
    obtain rfl : k = 0 := by omega
    rw [bst, if_pos (.inl rfl)]; exact bef_self _
  | n + 2, _, k, hk => by
    have ih := bst_min l (n + 1) (by omega)
    rw [bst_bef l (n + 1) (by omega)]
    have hl := bst_len_eq l (n + 1) (by omega)
    by_cases hb : bef (nrm (frm l (n + 1))) (bst l (n + 1)) = true
    · rw [if_pos hb]
      by_cases hkn : k = n + 1
      · subst hkn; exact bef_self _
      · cases h : bef (nrm (frm l k)) (nrm (frm l (n + 1))) with
        | false => rfl
        | true =>
          have := bef_trans (by rw [form_len, form_len]) (by rw [form_len, hl]) h hb
          rw [ih k (by omega)] at this
          cases this
    · rw [if_neg hb]
      by_cases hkn : k = n + 1
      · subst hkn; simpa using hb
      · exact ih k (by omega)
theorem bst_same {l l' : List Bar} (hl : l.length = l'.length) (h1 : ∀ k, k < 8 → ∃ j, j < 8 ∧ nrm (frm l k) = nrm (frm l' j)) (h2 : ∀ k, k < 8 → ∃ j, j < 8 ∧ nrm (frm l' k) = nrm (frm l j)) : bst l 8 = bst l' 8 := by
  obtain ⟨k, hk, e⟩ := bst_mem l 8 (by omega)
  obtain ⟨k', hk', e'⟩ := bst_mem l' 8 (by omega)
  obtain ⟨j, hj, ej⟩ := h1 k hk
  obtain ⟨j', hj', ej'⟩ := h2 k' hk'
  have m1 := bst_min l' 8 (by omega) j hj
  have m2 := bst_min l 8 (by omega) j' hj'
  rw [← ej, ← e] at m1
  rw [← ej', ← e'] at m2
  refine Decidable.byContradiction fun hne => ?_
  have := bef_tri (by rw [bst_len_eq l 8 (by omega), bst_len_eq l' 8 (by omega), hl]) m1 hne
  rw [m2] at this
  cases this
/-! ## shifted -/
theorem shB_lt (d : Knot) {a b : Bar} : bltP (shB d a) (shB d b) ↔ bltP a b := by
  rw [bltP_iff, bltP_iff]; unfold shB; simp only; omega
theorem shift_sorted {l : List Bar} (hs : l.Pairwise bltP) (d : Knot) : (l.map (shB d)).Pairwise bltP := by
  rw [List.pairwise_map]; exact hs.imp fun h => (shB_lt d).2 h
theorem shift_sided {l : List Bar} (h : ∀ b ∈ l, Sided b) (d : Knot) : ∀ b ∈ l.map (shB d), Sided b := fun b hb => by
  obtain ⟨c, hc, rfl⟩ := List.mem_map.1 hb
  exact h c hc
theorem turn_shift (d : Knot) {b : Bar} (h : Sided b) : turnB (shB d b) = shB (turnK d) (turnB b) := by
  obtain ⟨x, y, s⟩ := b
  unfold Sided at h
  simp only at h
  obtain rfl | rfl := h
  · unfold shB; simp only [turn_up, turnK, Prod.mk.injEq, and_true] <;> omega
  · unfold shB; simp only [turn_dn, turnK, Prod.mk.injEq, and_true] <;> omega
theorem mir_shift (d : Knot) (b : Bar) : mirB (shB d b) = shB (mirK d) (mirB b) := by
  obtain ⟨x, y, s⟩ := b
  unfold shB mirB mirK; simp only [Prod.mk.injEq, and_true] <;> omega
def tK (d : Knot) : Nat → Knot
  | 0 => d
  | n + 1 => turnK (tK d n)
theorem turnN_shift {l : List Bar} (hs : l.Pairwise bltP) (h : ∀ b ∈ l, Sided b) (d : Knot) : ∀ n, turnN n (l.map (shB d)) = (turnN n l).map (shB (tK d n))
  | 0 => rfl
  | n + 1 => by
    refine sortedB_eq (turnN_sorted (shift_sorted hs d) (shift_sided h d) _) (shift_sorted (turnN_sorted hs h _) _) fun x => ?_
    rw [turnN_eq, turnN_shift hs h d n, srtB_mem, List.map_map, turnN_eq, List.mem_map, List.mem_map]
    constructor
    · rintro ⟨b, hb, rfl⟩
      exact ⟨turnB b, (srtB_mem _ _).2 (List.mem_map.2 ⟨b, hb, rfl⟩), (turn_shift _ (turnN_sided h n b hb)).symm⟩
    · rintro ⟨c, hc, rfl⟩
      rw [srtB_mem, List.mem_map] at hc
      obtain ⟨b, hb, rfl⟩ := hc
      exact ⟨b, hb, turn_shift _ (turnN_sided h n b hb)⟩
theorem mirN_shift {l : List Bar} (hs : l.Pairwise bltP) (d : Knot) : mirN (l.map (shB d)) = (mirN l).map (shB (mirK d)) := by
  refine sortedB_eq (mirN_sorted (sortedB_nodup (shift_sorted hs d))) (shift_sorted (mirN_sorted (sortedB_nodup hs)) _) fun x => ?_
  rw [mirN_eq, srtB_mem, List.map_map, mirN_eq, List.mem_map, List.mem_map]
  constructor
  · rintro ⟨b, hb, rfl⟩
    exact ⟨mirB b, (srtB_mem _ _).2 (List.mem_map.2 ⟨b, hb, rfl⟩), (mir_shift _ _).symm⟩
  · rintro ⟨c, hc, rfl⟩
    rw [srtB_mem, List.mem_map] at hc
    obtain ⟨b, hb, rfl⟩ := hc
    exact ⟨b, hb, mir_shift _ _⟩
theorem nrm_shift (l : List Bar) (d : Knot) : nrm (l.map (shB d)) = nrm l := by
  cases l with
  | nil => rfl
  | cons a r =>
    unfold nrm
    rw [List.map_map]
    refine List.map_congr_left fun b _ => ?_
    show ((b.1 + d.1 + -(a.1 + d.1), b.2.1 + d.2 + -(a.2.1 + d.2), b.2.2) : Bar) = (b.1 + -a.1, b.2.1 + -a.2.1, b.2.2)
    rw [show b.1 + d.1 + -(a.1 + d.1) = b.1 + -a.1 by omega, show b.2.1 + d.2 + -(a.2.1 + d.2) = b.2.1 + -a.2.1 by omega]
theorem frm_shift {l : List Bar} (hs : l.Pairwise bltP) (h : ∀ b ∈ l, Sided b) (d : Knot) (k : Nat) : nrm (frm (l.map (shB d)) k) = nrm (frm l k) := by
  unfold frm
  split
  · rw [turnN_shift hs h, nrm_shift]
  · rw [mirN_shift hs, turnN_shift (mirN_sorted (sortedB_nodup hs)) (mirN_sided h), nrm_shift]
theorem bst_shift {l : List Bar} (hs : l.Pairwise bltP) (h : ∀ b ∈ l, Sided b) (d : Knot) : bst (l.map (shB d)) 8 = bst l 8 :=
  bst_same (by rw [List.length_map]) (fun k hk => ⟨k, hk, frm_shift hs h d k⟩) fun k hk => ⟨k, hk, (frm_shift hs h d k).symm⟩
/-! ## turned, mirrored -/
theorem turnN_add (l : List Bar) (m : Nat) : ∀ n, turnN n (turnN m l) = turnN (n + m) l
  | 0 => by rw [Nat.zero_add]; rfl
  | n + 1 => by rw [turnN_eq, turnN_add l m n, show n + 1 + m = (n + m) + 1 by omega, turnN_eq]
theorem mir_turn {b : Bar} (h : Sided b) : mirB (turnB b) = turnB (turnB (turnB (mirB b))) := by
  obtain ⟨x, y, s⟩ := b
  unfold Sided at h
  simp only at h
  obtain rfl | rfl := h
  · simp only [turn_up, turn_dn, mirB, Int.neg_neg, Prod.mk.injEq, and_true] <;> omega
  · simp only [turn_up, turn_dn, mirB, Int.neg_neg] <;> omega
theorem mirN_mirN {l : List Bar} (hs : l.Pairwise bltP) : mirN (mirN l) = l :=
  sortedB_eq (mirN_sorted (sortedB_nodup (mirN_sorted (sortedB_nodup hs)))) hs fun x => by rw [mirN_mem, mirN_mem, mirB_mirB]
theorem mirN_turn {l : List Bar} (hs : l.Pairwise bltP) (h : ∀ b ∈ l, Sided b) : mirN (turnN 1 l) = turnN 3 (mirN l) := by
  refine sortedB_eq (mirN_sorted (turnN_nodup (sortedB_nodup hs) h 1)) (turnN_sorted (mirN_sorted (sortedB_nodup hs)) (mirN_sided h) 3) fun x => ?_
  rw [mirN_mem, turnN_mem]
  constructor
  · rintro ⟨b, hb, e⟩
    have hb' : b ∈ l := hb
    have hx : x = turnB (turnB (turnB (mirB b))) := by rw [← mir_turn (h b hb'), e, mirB_mirB]
    rw [hx]
    refine (turnN_mem _ _ 2).2 ⟨_, (turnN_mem _ _ 1).2 ⟨_, (turnN_mem _ _ 0).2 ⟨mirB b, ?_, rfl⟩, rfl⟩, rfl⟩
    show mirB b ∈ mirN l
    rw [mirN_mem, mirB_mirB]; exact hb'
  · intro hx
    obtain ⟨b2, h2, rfl⟩ := (turnN_mem _ _ 2).1 hx
    obtain ⟨b1, h1, rfl⟩ := (turnN_mem _ _ 1).1 h2
    obtain ⟨b0, h0, rfl⟩ := (turnN_mem _ _ 0).1 h1
    have h0' : mirB b0 ∈ l := (mirN_mem l b0).1 h0
    refine ⟨mirB b0, h0', ?_⟩
    have := mir_turn (h _ h0')
    rw [mirB_mirB] at this
    rw [← this, mirB_mirB]
theorem frm_turn {l : List Bar} (hs : l.Pairwise bltP) (h : ∀ b ∈ l, Sided b) {k : Nat} (hk : k < 8) : frm (turnN 1 l) k = frm l (if k < 4 then (k + 1) % 4 else 4 + (k - 4 + 3) % 4) := by
  have h4 := turnN_four hs h
  have hm4 := turnN_four (mirN_sorted (sortedB_nodup hs)) (mirN_sided h)
  have red : ∀ (X : List Bar), turnN 4 X = X → ∀ n, turnN (4 + n) X = turnN n X := fun X hX n => by rw [Nat.add_comm, ← turnN_add, hX]
  unfold frm
  by_cases h1 : k < 4
  · simp only [if_pos h1]
    rw [if_pos (by omega), turnN_add]
    by_cases h3 : k = 3
    · subst h3; rw [show (3 + 1) % 4 = 0 by rfl]; exact h4
    · rw [Nat.mod_eq_of_lt (by omega)]
  · simp only [if_neg h1]
    rw [if_neg (by omega), mirN_turn hs h, turnN_add, show 4 + (k - 4 + 3) % 4 - 4 = (k - 4 + 3) % 4 by omega]
    by_cases h5 : k = 4
    · subst h5; rfl
    · rw [show k - 4 + 3 = 4 + (k - 5) by omega, red _ hm4, Nat.add_mod_left, Nat.mod_eq_of_lt (by omega)]
theorem bst_turn1 {l : List Bar} (hs : l.Pairwise bltP) (h : ∀ b ∈ l, Sided b) : bst (turnN 1 l) 8 = bst l 8 :=
  bst_same (turnN_len l 1) (fun k hk => ⟨if k < 4 then (k + 1) % 4 else 4 + (k - 4 + 3) % 4, by split <;> omega, by rw [frm_turn hs h hk]⟩) fun k hk => by
    refine ⟨if k < 4 then (k + 3) % 4 else 4 + (k - 4 + 1) % 4, by split <;> omega, ?_⟩
    rw [frm_turn hs h (by split <;> omega)]
    congr 2
    split
    · rw [if_pos (by omega)]; omega
    · rw [if_neg (by omega)]; omega
theorem bst_turn {l : List Bar} (hs : l.Pairwise bltP) (h : ∀ b ∈ l, Sided b) : ∀ n, bst (turnN n l) 8 = bst l 8
  | 0 => rfl
  | n + 1 => by
    rw [show n + 1 = 1 + n by omega, ← turnN_add, bst_turn1 (turnN_sorted hs h n) (turnN_sided h n), bst_turn hs h n]
theorem frm_mir {l : List Bar} (hs : l.Pairwise bltP) {k : Nat} (hk : k < 8) : frm (mirN l) k = frm l (if k < 4 then k + 4 else k - 4) := by
  unfold frm
  by_cases h1 : k < 4
  · simp only [if_pos h1]
    rw [if_neg (by omega), show k + 4 - 4 = k by omega]
  · simp only [if_neg h1]
    rw [if_pos (by omega), mirN_mirN hs]
theorem bst_mir {l : List Bar} (hs : l.Pairwise bltP) : bst (mirN l) 8 = bst l 8 :=
  bst_same (by rw [mirN_eq, srtB_length, List.length_map]) (fun k hk => ⟨if k < 4 then k + 4 else k - 4, by split <;> omega, by rw [frm_mir hs hk]⟩) fun k hk => by
    refine ⟨if k < 4 then k + 4 else k - 4, by split <;> omega, ?_⟩
    rw [frm_mir hs (by split <;> omega)]
    congr 2
    split
    · rw [if_neg (by omega)]; omega
    · rw [if_pos (by omega)]; omega
theorem turn_back {l : List Bar} (hs : l.Pairwise bltP) (h : ∀ b ∈ l, Sided b) {m n : Nat} (e : (m + n) % 4 = 0) : turnN m (turnN n l) = l := by
  rw [turnN_add]
  obtain ⟨q, hq⟩ : ∃ q, m + n = 4 * q := ⟨(m + n) / 4, by omega⟩
  rw [hq]
  clear hq e
  induction q with
  | zero => rfl
  | succ q ih => rw [show 4 * (q + 1) = 4 * q + 4 by omega, ← turnN_add, turnN_four hs h, ih]
theorem mir_turn_back {l : List Bar} (hs : l.Pairwise bltP) (h : ∀ b ∈ l, Sided b) : turnN 1 (mirN (turnN 1 (mirN l))) = l := by
  have hm := mirN_sorted (sortedB_nodup hs)
  have hd := mirN_sided h
  rw [mirN_turn hm hd, mirN_mirN hs]
  exact turn_back hs h (by rfl)
end Go.Proofs.YtkmjcoofkgpanaaGreatDoor

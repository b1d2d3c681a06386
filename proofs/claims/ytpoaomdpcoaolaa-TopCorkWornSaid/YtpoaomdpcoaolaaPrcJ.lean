/- Sheets: their bars, numbers, parts, degrees, plain. Conditions: none. -/
import Derived.Test.YtpoaomdpcoaolaaC19
import Derived.Test.YtpoaomdpcoaolaaC18
import Derived.Test.YtpoaomdpcoaolaaC17
namespace Go.Proofs.Ytpoaomdpcoaolaa
open Go.RowKit Go.ChangeMaps
set_option maxHeartbeats 4000000
set_option maxRecDepth 100000

/-! ## the bars of a sheet -/
def InS (x0 y0 : Int) (c n : Nat) (b : Bar) : Prop := (b.2.2 = 1 ∨ b.2.2 = -1) ∧ x0 ≤ b.1 ∧ b.1 ≤ x0 + 2 * c ∧ x0 ≤ b.1 + b.2.2 ∧ b.1 + b.2.2 ≤ x0 + 2 * c ∧ y0 ≤ b.2.1 ∧ b.2.1 < y0 + n ∧ (b.1 - x0 + (b.2.1 - y0)) % 2 = 0
theorem sdB_mem {x0 : Int} {c : Nat} {b d : Bar} : b ∈ sdB x0 c d ↔ b = d ∧ x0 ≤ d.1 + d.2.2 ∧ d.1 + d.2.2 ≤ x0 + 2 * c := by
  unfold sdB
  split
  · rename_i h; simp [h]
  · rename_i h
    constructor
    · intro h1; cases h1
    · rintro ⟨_, h1⟩; exact absurd h1 h
theorem shT_two (x0 : Int) (c : Nat) (x y : Int) : shT x0 c x y 2 = sdB x0 c (x, y, -1) ++ sdB x0 c (x, y, 1) := rfl
theorem shT_mem {x0 : Int} {c : Nat} {x y : Int} {b : Bar} : b ∈ shT x0 c x y 2 ↔ b.1 = x ∧ b.2.1 = y ∧ (b.2.2 = 1 ∨ b.2.2 = -1) ∧ x0 ≤ x + b.2.2 ∧ x + b.2.2 ≤ x0 + 2 * c := by
  obtain ⟨bx, bY, bs⟩ := b
  rw [shT_two, List.mem_append, sdB_mem, sdB_mem]
  simp only [Prod.mk.injEq]
  constructor
  · rintro (⟨⟨rfl, rfl, rfl⟩, h⟩ | ⟨⟨rfl, rfl, rfl⟩, h⟩)
    · exact ⟨rfl, rfl, .inr rfl, h⟩
    · exact ⟨rfl, rfl, .inl rfl, h⟩
  · rintro ⟨rfl, rfl, rfl | rfl, h⟩
    · exact .inr ⟨⟨rfl, rfl, rfl⟩, h⟩
    · exact .inl ⟨⟨rfl, rfl, rfl⟩, h⟩
theorem shI_mem {x0 : Int} {c : Nat} {y : Int} {n : Nat} {b : Bar} : ∀ i, b ∈ shI x0 c y n i ↔ ∃ j, j < i ∧ b ∈ shT x0 c (x0 + (n % 2 : Nat) + 2 * (j : Int)) y 2
  | 0 => by simp [shI]
  | i + 1 => by
    rw [shI, List.mem_append, shI_mem i]
    constructor
    · rintro (⟨j, hj, h⟩ | h)
      · exact ⟨j, by omega, h⟩
      · exact ⟨i, by omega, h⟩
    · rintro ⟨j, hj, h⟩
      by_cases e : j = i
      · subst e; exact .inr h
      · exact .inl ⟨j, by omega, h⟩
theorem row_mem {x0 : Int} {c : Nat} {y : Int} {n : Nat} {b : Bar} : b ∈ shI x0 c y n (c + 1 - n % 2) ↔ b.2.1 = y ∧ (b.2.2 = 1 ∨ b.2.2 = -1) ∧ x0 ≤ b.1 ∧ b.1 ≤ x0 + 2 * c ∧ x0 ≤ b.1 + b.2.2 ∧ b.1 + b.2.2 ≤ x0 + 2 * c ∧ (b.1 - x0 + n) % 2 = 0 := by
  obtain ⟨bx, bY, bs⟩ := b
  rw [shI_mem]
  simp only [shT_mem]
  constructor
  · rintro ⟨j, hj, h1, h2, h3, h4, h5⟩
    refine ⟨h2, h3, ?_, ?_, ?_, ?_, ?_⟩ <;> omega
  · rintro ⟨h2, h3, h4, h5, h6, h7, h8⟩
    obtain ⟨j, hj⟩ : ∃ j : Nat, bx - x0 - (n % 2 : Nat) = 2 * (j : Int) := ⟨((bx - x0 - (n % 2 : Nat)) / 2).toNat, by omega⟩
    refine ⟨j, ?_, ?_, h2, h3, ?_, ?_⟩ <;> omega
theorem shN_mem {x0 y0 : Int} {c : Nat} {b : Bar} : ∀ n, b ∈ shN x0 y0 c n ↔ InS x0 y0 c n b
  | 0 => by
    unfold InS
    simp only [shN, List.not_mem_nil, false_iff]
    omega
  | n + 1 => by
    rw [shN, List.mem_append, shN_mem n, row_mem]
    unfold InS
    constructor
    · rintro (⟨h1, h2, h3, h4, h5, h6, h7, h8⟩ | ⟨h1, h2, h3, h4, h5, h6, h7⟩)
      · exact ⟨h1, h2, h3, h4, h5, h6, by omega, h8⟩
      · exact ⟨h2, h3, h4, h5, h6, by omega, by omega, by omega⟩
    · rintro ⟨h1, h2, h3, h4, h5, h6, h7, h8⟩
      by_cases e : b.2.1 < y0 + (n : Int)
      · exact .inl ⟨h1, h2, h3, h4, h5, h6, e, h8⟩
      · exact .inr ⟨by omega, h1, h2, h3, h4, h5, by omega⟩
theorem sdB_sorted (x0 : Int) (c : Nat) (d : Bar) : (sdB x0 c d).Pairwise bltP := by unfold sdB; split <;> simp
theorem shT_sorted (x0 : Int) (c : Nat) (x y : Int) : (shT x0 c x y 2).Pairwise bltP := by
  rw [shT_two]
  refine List.pairwise_append.2 ⟨sdB_sorted _ _ _, sdB_sorted _ _ _, fun a ha b hb => ?_⟩
  rw [(sdB_mem.1 ha).1, (sdB_mem.1 hb).1, bltP_iff]
  simp
theorem shI_sorted (x0 : Int) (c : Nat) (y : Int) (n : Nat) : ∀ i, (shI x0 c y n i).Pairwise bltP
  | 0 => by simp [shI]
  | i + 1 => by
    rw [shI]
    refine List.pairwise_append.2 ⟨shI_sorted x0 c y n i, shT_sorted _ _ _ _, fun a ha b hb => ?_⟩
    obtain ⟨j, hj, h1⟩ := (shI_mem i).1 ha
    obtain ⟨a1, a2, _⟩ := shT_mem.1 h1
    obtain ⟨b1, b2, _⟩ := shT_mem.1 hb
    rw [bltP_iff]
    omega
theorem shN_sorted (x0 y0 : Int) (c : Nat) : ∀ n, (shN x0 y0 c n).Pairwise bltP
  | 0 => by simp [shN]
  | n + 1 => by
    rw [shN]
    refine List.pairwise_append.2 ⟨shN_sorted x0 y0 c n, shI_sorted _ _ _ _ _, fun a ha b hb => ?_⟩
    obtain ⟨_, _, _, _, _, _, h, _⟩ := (shN_mem n).1 ha
    have := (row_mem.1 hb).1
    rw [bltP_iff]
    omega
theorem sdB_yes {x0 : Int} {c : Nat} {d : Bar} (h : x0 ≤ d.1 + d.2.2 ∧ d.1 + d.2.2 ≤ x0 + 2 * c) : (sdB x0 c d).length = 1 := by unfold sdB; rw [if_pos h]; rfl
theorem sdB_no {x0 : Int} {c : Nat} {d : Bar} (h : ¬ (x0 ≤ d.1 + d.2.2 ∧ d.1 + d.2.2 ≤ x0 + 2 * c)) : (sdB x0 c d).length = 0 := by unfold sdB; rw [if_neg h]; rfl
theorem odd_len (x0 : Int) (c : Nat) (y : Int) {n : Nat} (hn : n % 2 = 1) : ∀ i, i ≤ c → (shI x0 c y n i).length = 2 * i
  | 0, _ => rfl
  | i + 1, h => by
    rw [shI, List.length_append, odd_len x0 c y hn i (by omega), shT_two, List.length_append, hn, sdB_yes (by simp only; omega), sdB_yes (by simp only; omega)]
    omega
theorem even_len (x0 : Int) (c : Nat) (y : Int) {n : Nat} (hn : n % 2 = 0) : ∀ i, i + 1 ≤ c → (shI x0 c y n (i + 1)).length = 2 * i + 1
  | 0, h => by
    rw [shI, List.length_append, shI, shT_two, List.length_append, hn, sdB_no (by simp only; omega), sdB_yes (by simp only; omega)]
    rfl
  | i + 1, h => by
    rw [shI, List.length_append, even_len x0 c y hn i (by omega), shT_two, List.length_append, hn, sdB_yes (by simp only; omega), sdB_yes (by simp only; omega)]
    omega
theorem row_len (x0 : Int) {c : Nat} (hc : 1 ≤ c) (y : Int) (n : Nat) : (shI x0 c y n (c + 1 - n % 2)).length = 2 * c := by
  rcases Nat.mod_two_eq_zero_or_one n with h | h
  · obtain ⟨d, rfl⟩ : ∃ d, c = d + 1 := ⟨c - 1, by omega⟩
    rw [h, Nat.sub_zero, shI, List.length_append, even_len x0 (d + 1) y h d (Nat.le_refl _), shT_two, List.length_append, h, sdB_yes (by simp only; omega), sdB_no (by simp only; omega)]
    omega
  · rw [h, Nat.add_sub_cancel, odd_len x0 c y h c (Nat.le_refl _)]
theorem sheet_len (x0 y0 : Int) {c : Nat} (hc : 1 ≤ c) : ∀ n, (shN x0 y0 c n).length = 2 * c * n
  | 0 => by simp [shN]
  | n + 1 => by rw [shN, List.length_append, sheet_len x0 y0 hc n, row_len x0 hc, Nat.mul_succ]
/-! ## rows of places -/
def rowK (x y : Int) (i : Nat) : List Knot := (List.range i).map fun (j : Nat) => (x + 2 * (j : Int), y)
theorem rowK_len (x y : Int) (i : Nat) : (rowK x y i).length = i := by simp [rowK]
theorem rowK_mem {x y : Int} {i : Nat} {k : Knot} : k ∈ rowK x y i ↔ k.2 = y ∧ x ≤ k.1 ∧ k.1 < x + 2 * i ∧ (k.1 - x) % 2 = 0 := by
  obtain ⟨a, b⟩ := k
  unfold rowK
  simp only [List.mem_map, List.mem_range, Prod.mk.injEq]
  constructor
  · rintro ⟨j, hj, rfl, rfl⟩; omega
  · rintro ⟨rfl, h1, h2, h3⟩
    exact ⟨((a - x) / 2).toNat, by omega, by omega, rfl⟩
theorem rowK_nodup (x y : Int) (i : Nat) : (rowK x y i).Nodup := by
  unfold rowK
  refine nodup_map List.nodup_range fun a _ b _ h => ?_
  simp only [Prod.mk.injEq] at h
  omega
def gK (x0 y0 : Int) (c : Nat) : Nat → List Knot
  | 0 => []
  | m + 1 => gK x0 y0 c m ++ rowK (x0 + (m % 2 : Nat)) (y0 + m) (c + 1 - m % 2)
theorem gK_mem {x0 y0 : Int} {c : Nat} {k : Knot} : ∀ m, k ∈ gK x0 y0 c m ↔ x0 ≤ k.1 ∧ k.1 ≤ x0 + 2 * c ∧ y0 ≤ k.2 ∧ k.2 < y0 + m ∧ (k.1 - x0 + (k.2 - y0)) % 2 = 0
  | 0 => by simp only [gK, List.not_mem_nil, false_iff]; omega
  | m + 1 => by
    rw [gK, List.mem_append, gK_mem m, rowK_mem]
    constructor
    · rintro (h | h) <;> omega
    · intro h
      by_cases e : k.2 < y0 + (m : Int)
      · exact .inl (by omega)
      · exact .inr (by omega)
theorem gK_nodup (x0 y0 : Int) (c : Nat) : ∀ m, (gK x0 y0 c m).Nodup
  | 0 => by simp [gK]
  | m + 1 => by
    rw [gK, List.nodup_append]
    refine ⟨gK_nodup x0 y0 c m, rowK_nodup _ _ _, fun a ha b hb e => ?_⟩
    subst e
    have := (gK_mem m).1 ha
    have := rowK_mem.1 hb
    omega
def kS (c : Int) : Nat → Int
  | 0 => 0
  | m + 1 => kS c m + (c + 1 - (m : Int) % 2)
theorem gK_len (x0 y0 : Int) {c : Nat} : ∀ m, ((gK x0 y0 c m).length : Int) = kS c m
  | 0 => rfl
  | m + 1 => by
    rw [gK, List.length_append, rowK_len, kS, ← gK_len x0 y0 m]
    omega
def gM (x0 y0 : Int) (c : Nat) : Nat → List Knot
  | 0 => []
  | m + 1 => gM x0 y0 c m ++ rowK (x0 + 1 + ((m + 1) % 2 : Nat)) (y0 + (m + 1 : Nat)) (c - (m + 1) % 2)
theorem gM_mem {x0 y0 : Int} {c : Nat} {k : Knot} : ∀ m, k ∈ gM x0 y0 c m ↔ x0 + 1 ≤ k.1 ∧ k.1 + 1 ≤ x0 + 2 * c ∧ y0 + 1 ≤ k.2 ∧ k.2 < y0 + 1 + m ∧ (k.1 - x0 + (k.2 - y0)) % 2 = 1
  | 0 => by simp only [gM, List.not_mem_nil, false_iff]; omega
  | m + 1 => by
    rw [gM, List.mem_append, gM_mem m, rowK_mem]
    constructor
    · rintro (h | h) <;> omega
    · intro h
      by_cases e : k.2 < y0 + 1 + (m : Int)
      · exact .inl (by omega)
      · exact .inr (by omega)
theorem gM_nodup (x0 y0 : Int) (c : Nat) : ∀ m, (gM x0 y0 c m).Nodup
  | 0 => by simp [gM]
  | m + 1 => by
    rw [gM, List.nodup_append]
    refine ⟨gM_nodup x0 y0 c m, rowK_nodup _ _ _, fun a ha b hb e => ?_⟩
    subst e
    have := (gM_mem m).1 ha
    have := rowK_mem.1 hb
    omega
def mS (c : Int) : Nat → Int
  | 0 => 0
  | m + 1 => mS c m + (c - ((m : Int) + 1) % 2)
theorem gM_len (x0 y0 : Int) {c : Nat} (hc : 1 ≤ c) : ∀ m, ((gM x0 y0 c m).length : Int) = mS c m
  | 0 => rfl
  | m + 1 => by
    rw [gM, List.length_append, rowK_len, mS, ← gM_len x0 y0 hc m]
    omega
/-! ## the numbers of a sheet -/
theorem len_same {α : Type} [DecidableEq α] {A B : List α} (hA : A.Nodup) (hB : B.Nodup) (h : ∀ x, x ∈ A ↔ x ∈ B) : A.length = B.length :=
  Nat.le_antisymm (length_le_of_sub hA fun x hx => (h x).1 hx) (length_le_of_sub hB fun x hx => (h x).2 hx)
theorem inS_mk {x0 y0 : Int} {c n : Nat} {x y s : Int} (hs : s = 1 ∨ s = -1) (h : (x0 ≤ x ∧ x ≤ x0 + 2 * c) ∧ (x0 ≤ x + s ∧ x + s ≤ x0 + 2 * c) ∧ (y0 ≤ y ∧ y < y0 + n) ∧ (x - x0 + (y - y0)) % 2 = 0) : InS x0 y0 c n (x, y, s) := ⟨hs, h.1.1, h.1.2, h.2.1.1, h.2.1.2, h.2.2.1.1, h.2.2.1.2, h.2.2.2⟩
theorem sheet_knots (x0 y0 : Int) {c r : Nat} (hc : 1 ≤ c) (hr : 1 ≤ r) : ((holeK (shN x0 y0 c r)).length : Int) = kS c (r + 1) := by
  rw [← gK_len x0 y0]
  congr 1
  refine len_same (sortedK_nodup (holeK_sorted _)) (gK_nodup _ _ _ _) fun k => ?_
  rw [holeK_ends, gK_mem]
  constructor
  · rintro ⟨⟨bx, bY, bs⟩, hb, h⟩
    obtain ⟨h1, h2, h3, h4, h5, h6, h7, h8⟩ := (shN_mem r).1 hb
    simp only at h1 h2 h3 h4 h5 h6 h7 h8
    rcases h with rfl | rfl <;> simp only [lowK, uppK] <;> omega
  · rintro ⟨h1, h2, h3, h4, h5⟩
    obtain ⟨x, y⟩ := k
    simp only at h1 h2 h3 h4 h5
    by_cases e : y < y0 + (r : Int)
    · by_cases e2 : x + 1 ≤ x0 + 2 * c
      · exact ⟨(x, y, 1), (shN_mem r).2 (inS_mk (by simp) (by omega)), .inl rfl⟩
      · exact ⟨(x, y, -1), (shN_mem r).2 (inS_mk (by simp) (by omega)), .inl rfl⟩
    · by_cases e2 : x0 ≤ x - 1
      · refine ⟨(x - 1, y - 1, 1), (shN_mem r).2 (inS_mk (by simp) (by omega)), .inr ?_⟩
        simp only [uppK, Prod.mk.injEq]; omega
      · refine ⟨(x + 1, y - 1, -1), (shN_mem r).2 (inS_mk (by simp) (by omega)), .inr ?_⟩
        simp only [uppK, Prod.mk.injEq]; omega
theorem sheet_meshes (x0 y0 : Int) {c r : Nat} (hc : 1 ≤ c) (hr : 1 ≤ r) : ((meshL (shN x0 y0 c r) (shN x0 y0 c r)).length : Int) = mS c (r - 1) := by
  rw [← gM_len x0 y0 hc]
  congr 1
  refine len_same (meshL_nodup (sortedB_nodup (shN_sorted _ _ _ _))) (gM_nodup _ _ _ _) fun k => ?_
  rw [meshL_mem, gM_mem]
  obtain ⟨x, y⟩ := k
  unfold MeshAt
  constructor
  · intro h
    have h0 := (shN_mem r).1 (h 0 (by omega))
    have h1 := (shN_mem r).1 (h 1 (by omega))
    have h2 := (shN_mem r).1 (h 2 (by omega))
    have h3 := (shN_mem r).1 (h 3 (by omega))
    unfold InS at h0 h1 h2 h3
    simp only [mshB] at h0 h1 h2 h3
    simp only
    omega
  · rintro ⟨h1, h2, h3, h4, h5⟩ i hi
    simp only at h1 h2 h3 h4 h5
    refine (shN_mem r).2 ?_
    unfold InS
    obtain rfl | rfl | rfl | rfl : i = 0 ∨ i = 1 ∨ i = 2 ∨ i = 3 := by omega
    all_goals (simp only [mshB]; exact ⟨by simp, by omega, by omega, by omega, by omega, by omega, by omega, by omega⟩)
theorem sheet_conn {x0 y0 : Int} {c r : Nat} (hc : 1 ≤ c ∧ c ≤ 100) (hr : 1 ≤ r) : ∀ (m : Nat) (x y s : Int), InS x0 y0 c r (x, y, s) → (y - y0) * 1000 + 2 * (x - x0) + s + 1 ≤ m → Conn (shN x0 y0 c r) (x, y, s) (x0, y0, 1)
  | m, x, y, s, h, hm => by
    have hI := h
    unfold InS at h
    simp only at h
    obtain ⟨h1, h2, h3, h4, h5, h6, h7, h8⟩ := h
    have go : ∀ (x' y' s' : Int), InS x0 y0 c r (x', y', s') → (y' - y0) * 1000 + 2 * (x' - x0) + s' + 1 < (y - y0) * 1000 + 2 * (x - x0) + s + 1 → Tch (x, y, s) (x', y', s') → Conn (shN x0 y0 c r) (x, y, s) (x0, y0, 1) := fun x' y' s' hI' hlt ht => by
      have hI2 := hI'
      unfold InS at hI'
      simp only at hI'
      have h0 : 0 ≤ (y' - y0) * 1000 + 2 * (x' - x0) + s' + 1 := by omega
      cases m with
      | zero => omega
      | succ m => exact (Conn.refl.step ((shN_mem r).2 hI2) ht).trans (sheet_conn hc hr m x' y' s' hI2 (by omega))
    rcases h1 with rfl | rfl
    · by_cases e : x = x0
      · subst e
        by_cases e2 : y = y0
        · subst e2; exact .refl
        · refine go (x + 1) (y - 1) (-1) (inS_mk (by simp) (by omega)) (by omega) ?_
          refine .inr (.inl ?_)
          simp only [lowK, uppK, Prod.mk.injEq]; omega
      · exact go x y (-1) (inS_mk (by simp) (by omega)) (by omega) (.inl rfl)
    · by_cases e : x = x0 + 1
      · subst e
        refine go x0 (y - 1) 1 (inS_mk (by simp) (by omega)) (by omega) ?_
        refine .inr (.inl ?_)
        simp only [lowK, uppK, Prod.mk.injEq, true_and]; omega
      · refine go (x - 2) y 1 (inS_mk (by simp) (by omega)) (by omega) ?_
        refine .inr (.inr (.inr ?_))
        simp only [uppK, Prod.mk.injEq, and_true]; omega
theorem sheet_parts (x0 y0 : Int) {c r : Nat} (hc : 1 ≤ c ∧ c ≤ 100) (hr : 1 ≤ r) : (prtC (shN x0 y0 c r) (shN x0 y0 c r).length).length = 1 := by
  obtain ⟨l, hl⟩ : ∃ l, shN x0 y0 c r = l := ⟨_, rfl⟩
  have hlen : l.length = 2 * c * r := by rw [← hl, sheet_len x0 y0 hc.1]
  have hcn : ∀ x ∈ l, Conn l x (x0, y0, 1) := fun x hx => by
    have h0 := (shN_mem r).1 (by rw [hl]; exact hx)
    have := sheet_conn hc hr _ x.1 x.2.1 x.2.2 h0 (Int.self_le_toNat _)
    rwa [hl] at this
  have hb0 : (x0, y0, 1) ∈ l := by rw [← hl]; exact (shN_mem r).2 (inS_mk (by simp) (by omega))
  rw [hl]
  have key : ∀ k, k ≤ l.length → 1 ≤ k → (prtC l k).length = 1 := fun k => by
    induction k with
    | zero => intro _ h; omega
    | succ k ih =>
      intro hk _
      have hlt : k < l.length := by omega
      rw [prtC_succ hlt]
      by_cases hk0 : k = 0
      · subst hk0
        rw [if_neg (by simp [prtC])]
        simp [prtC]
      · have h1 : l[k] ∈ (prtC l k).flatten := by
          refine (prtC_flat l k (by omega) _).2 ⟨0, by omega, by omega, ?_⟩
          exact (hcn _ (List.getElem_mem _)).trans ((hcn _ (List.getElem_mem hlt)).symm (List.getElem_mem hlt))
        rw [if_pos h1]
        exact ih (by omega) (by omega)
  refine key _ (Nat.le_refl _) ?_
  have : 0 < l.length := List.length_pos_of_mem hb0
  omega
theorem sheet_deg {x0 y0 : Int} {c r : Nat} {x y : Int} (hx : x0 < x ∧ x < x0 + 2 * c) (hy : y0 < y ∧ y < y0 + r) (hp : (x - x0 + (y - y0)) % 2 = 0) : degN (shN x0 y0 c r) (x, y) = 4 := by
  have hn := sortedB_nodup (shN_sorted x0 y0 c r)
  have hsd : ∀ b ∈ shN x0 y0 c r, Sided b := fun b hb => ((shN_mem r).1 hb).1
  refine Nat.le_antisymm (degN_le hn hsd _) ?_
  rw [degN_eq, List.countP_eq_length_filter]
  have := length_le_of_sub (l := [(x - 1, y - 1, 1), (x + 1, y - 1, -1), (x, y, -1), (x, y, 1)]) (D := (shN x0 y0 c r).filter (atB (x, y))) (by simp; omega) (fun b hb => by
    rw [List.mem_filter, shN_mem]
    simp only [List.mem_cons, List.not_mem_nil, or_false] at hb
    unfold atB
    rcases hb with rfl | rfl | rfl | rfl <;> refine ⟨inS_mk (by simp) (by omega), ?_⟩ <;> simp [lowK, uppK] <;> omega)
  simpa using this
/-! ## a sheet and the one above it; a sheet turned twice -/
theorem sheet_sub {x0 y0 : Int} {c r h : Nat} {b : Bar} (hb : b ∈ shN x0 y0 c r) : b ∈ shN x0 y0 c (r + h) := by
  rw [shN_mem] at *
  unfold InS at *
  omega
theorem above_both (x0 y0 : Int) (c r h : Nat) : setB (wout (shN x0 y0 c (r + h)) (shN x0 y0 c r) ++ shN x0 y0 c r) = shN x0 y0 c (r + h) :=
  sortedB_eq (setB_sorted _) (shN_sorted _ _ _ _) fun b => by
    rw [setB_mem, List.mem_append, wout_mem]
    constructor
    · rintro (h1 | h1)
      · exact h1.1
      · exact sheet_sub h1
    · intro h1
      by_cases e : b ∈ shN x0 y0 c r
      · exact .inr e
      · exact .inl ⟨h1, e⟩
theorem above_len (x0 y0 : Int) {c : Nat} (hc : 1 ≤ c) (r h : Nat) : (wout (shN x0 y0 c (r + h)) (shN x0 y0 c r)).length = 2 * c * h := by
  have h1 := sheet_len x0 y0 hc (r + h)
  have h2 := sheet_len x0 y0 hc r
  have e : meetL (shN x0 y0 c (r + h)) (shN x0 y0 c r) = shN x0 y0 c r := sortedB_eq ((shN_sorted _ _ _ _).filter _) (shN_sorted _ _ _ _) fun b => by
    rw [meet_mem]
    exact ⟨fun h => h.2, fun h => ⟨sheet_sub h, h⟩⟩
  have h3 := split_len (fun b => hasb (shN x0 y0 c r) b) (shN x0 y0 c (r + h))
  have h4 : ((shN x0 y0 c (r + h)).filter fun b => hasb (shN x0 y0 c r) b).length = (shN x0 y0 c r).length := by
    have := congrArg List.length e
    exact this
  unfold wout
  rw [Nat.mul_add] at h1
  omega
theorem sheet_turned (x0 y0 : Int) (c : Nat) {r : Nat} (hr : r % 2 = 0) : (turnN 2 (shN x0 y0 c r)).map (shB (2 * x0 + 2 * c, 2 * y0 + r)) = shN x0 y0 c r := by
  have hs := shN_sorted x0 y0 c r
  have hsd : ∀ b ∈ shN x0 y0 c r, Sided b := fun b hb => ((shN_mem r).1 hb).1
  have hm : ∀ b, b ∈ turnN 2 (shN x0 y0 c r) ↔ ∃ d ∈ shN x0 y0 c r, (-d.1 - d.2.2, -d.2.1 - 1, d.2.2) = b := fun b => by
    rw [turnN_mem]
    constructor
    · rintro ⟨d, hd, rfl⟩
      obtain ⟨e, he, rfl⟩ := (turnN_mem _ _ _).1 hd
      exact ⟨e, he, (turnB_two (hsd e he)).symm⟩
    · rintro ⟨d, hd, rfl⟩
      exact ⟨turnB d, (turnN_mem _ _ _).2 ⟨d, hd, rfl⟩, turnB_two (hsd d hd)⟩
  refine sortedB_eq (shift_sorted (turnN_sorted hs hsd 2) _) hs fun b => ?_
  rw [List.mem_map]
  have inv : ∀ {x y s : Int}, (x, y, s) ∈ shN x0 y0 c r → (2 * x0 + 2 * c - x - s, 2 * y0 + r - y - 1, s) ∈ shN x0 y0 c r := fun {x y s} h => by
    rw [shN_mem] at *
    unfold InS at *
    simp only at *
    omega
  constructor
  · rintro ⟨d, hd, rfl⟩
    obtain ⟨⟨x, y, s⟩, he, rfl⟩ := (hm d).1 hd
    have := inv he
    unfold shB
    simp only
    rw [show -x - s + (2 * x0 + 2 * ↑c) = 2 * x0 + 2 * c - x - s by omega, show -y - 1 + (2 * y0 + ↑r) = 2 * y0 + r - y - 1 by omega]
    exact this
  · intro hb
    obtain ⟨x, y, s⟩ := b
    refine ⟨(x - (2 * x0 + 2 * c), y - (2 * y0 + r), s), (hm _).2 ⟨_, inv hb, ?_⟩, ?_⟩
    · simp only [Prod.mk.injEq, and_true]; omega
    · unfold shB
      simp only [Prod.mk.injEq, and_true]; omega
end Go.Proofs.Ytpoaomdpcoaolaa

/- Nets whose strips are zigzags that overlap, plain. Conditions: none. -/
import Derived.Test.YtkkefahobjlagaaGreatDoorN48
import Derived.Test.YtkkefahobjlagaaGreatDoorN44
import Derived.Test.YtkkefahobjlagaaGreatDoorN43
import Derived.Test.YtkkefahobjlagaaGreatDoorN47
import Derived.Test.YtkkefahobjlagaaGreatDoorN25
import Derived.Test.YtkkefahobjlagaaGreatDoorN42
namespace Go.Proofs.YtkkefahobjlagaaGreatDoor
open Go.RowKit Go.ChangeMaps
set_option maxHeartbeats 4000000
set_option maxRecDepth 100000
def sumI (f : Nat → Int) : Nat → Int
 | 0 => 0
 | n + 1 => sumI f n + f n
structure IvNet (l : List Bar) (lo hi : Nat → Int) (H : Nat) : Prop where
 pos : 1 ≤ H
 some_ : ∀ j, j < H → lo j + 1 ≤ hi j
 lap : ∀ j, j + 1 < H → max (lo j) (lo (j + 1)) + 1 ≤ min (hi j) (hi (j + 1))
 mem : ∀ b : Bar, b ∈ l ↔ ∃ j : Nat, j < H ∧ b.2.1 = (j : Int) ∧ (b.1 + (j : Int)) % 2 = 0 ∧ (b.2.2 = -1 ∨ b.2.2 = 1) ∧ (lo j ≤ b.1 ∧ b.1 ≤ hi j) ∧ lo j ≤ b.1 + b.2.2 ∧ b.1 + b.2.2 ≤ hi j
 sorted : l.Pairwise bltP
 len : (l.length : Int) = sumI (fun j => hi j - lo j) H
def pC (u v r : Int) : Int := (v - u - (u + r) % 2) / 2 + 1
theorem pC_two {u v : Int} (r : Int) (_ : u ≤ v) : pC u v r + pC u v (r + 1) = v - u + 1 := by unfold pC; omega
theorem pC_nn {u v : Int} (r : Int) (h : u ≤ v) : 0 ≤ pC u v r := by unfold pC; omega
theorem pC_pos {u v : Int} (r : Int) (h : u + 1 ≤ v) : 1 ≤ pC u v r := by unfold pC; omega
theorem pC_in (u v r : Int) : pC (u + 1) (v - 1) (r + 1) = pC u v r - 1 := by unfold pC; omega
theorem pC_hull (u v u' v' r : Int) : pC (min u u') (max v v') r + pC (max u u') (min v v') r = pC u v r + pC u' v' r := by
 have h1 : (min u u' = u ∧ max u u' = u') ∨ (min u u' = u' ∧ max u u' = u) := by omega
 have h2 : (max v v' = v ∧ min v v' = v') ∨ (max v v' = v' ∧ min v v' = v) := by omega
 unfold pC
 rcases h1 with ⟨a, b⟩ | ⟨a, b⟩ <;> rcases h2 with ⟨c, d⟩ | ⟨c, d⟩ <;> rw [a, b, c, d] <;> omega
def rowP (u v y r : Int) : List Knot := rowK (u + (u + r) % 2) y (pC u v r).toNat
theorem rowP_mem {u v y r : Int} {k : Knot} : k ∈ rowP u v y r ↔ k.2 = y ∧ u ≤ k.1 ∧ k.1 ≤ v ∧ (k.1 + r) % 2 = 0 := by
 unfold rowP pC
 rw [rowK_mem]
 constructor
 ·rintro ⟨h1, h2, h3, h4⟩
  exact ⟨h1, by omega, by omega, by omega⟩
 ·rintro ⟨h1, h2, h3, h4⟩
  exact ⟨h1, by omega, by omega, by omega⟩
theorem rowP_nodup (u v y r : Int) : (rowP u v y r).Nodup := rowK_nodup _ _ _
theorem rowP_len {u v : Int} (y r : Int) (h : 0 ≤ pC u v r) : ((rowP u v y r).length : Int) = pC u v r := by
 unfold rowP
 rw [rowK_len]
 omega
def flatR (f : Nat → List Knot) : Nat → List Knot
 | 0 => []
 | n + 1 => flatR f n ++ f n
theorem flatR_mem {f : Nat → List Knot} {k : Knot} : ∀ n, k ∈ flatR f n ↔ ∃ r, r < n ∧ k ∈ f r
 | 0 => by simp [flatR]
 | n + 1 => by
  rw [flatR, List.mem_append, flatR_mem n]
  constructor
  ·rintro (⟨r, h1, h2⟩ | h)
   ·exact ⟨r, by omega, h2⟩
   ·exact ⟨n, by omega, h⟩
  ·rintro ⟨r, h1, h2⟩
   by_cases e : r = n
   ·subst e; exact .inr h2
   ·exact .inl ⟨r, by omega, h2⟩
theorem flatR_nodup {f : Nat → List Knot} (h1 : ∀ r, (f r).Nodup) (h2 : ∀ r, ∀ k ∈ f r, k.2 = (r : Int)) : ∀ n, (flatR f n).Nodup
 | 0 => by simp [flatR]
 | n + 1 => by
  rw [flatR, List.nodup_append]
  refine ⟨flatR_nodup h1 h2 n, h1 n, fun a ha b hb e => ?_⟩
  subst e
  obtain ⟨r, hr, ha⟩ := (flatR_mem n).1 ha
  have := h2 r a ha
  have := h2 n a hb
  omega
theorem flatR_len (f : Nat → List Knot) : ∀ n, ((flatR f n).length : Int) = sumI (fun r => ((f r).length : Int)) n
 | 0 => rfl
 | n + 1 => by
  rw [flatR, List.length_append, sumI, ← flatR_len f n]
  omega
variable {l : List Bar} {lo hi : Nat → Int} {H : Nat}
theorem IvNet.low (h : IvNet l lo hi H) {j : Nat} (hj : j < H) {z : Int} (h1 : lo j ≤ z) (h2 : z ≤ hi j) (hp : (z + (j : Int)) % 2 = 0) : ∃ b ∈ l, ((z, (j : Int)) : Knot) = lowK b ∨ ((z, (j : Int)) : Knot) = uppK b := by
 have hs := h.some_ j hj
 by_cases e : z + 1 ≤ hi j
 ·exact ⟨(z, (j : Int), 1), (h.mem _).2 ⟨j, hj, rfl, hp, .inr rfl, ⟨h1, h2⟩, by simp only; omega, by simp only; omega⟩, .inl rfl⟩
 ·exact ⟨(z, (j : Int), -1), (h.mem _).2 ⟨j, hj, rfl, hp, .inl rfl, ⟨h1, h2⟩, by simp only; omega, by simp only; omega⟩, .inl rfl⟩
theorem IvNet.upp (h : IvNet l lo hi H) {j : Nat} (hj : j < H) {z y : Int} (h1 : lo j ≤ z) (h2 : z ≤ hi j) (hy : y = (j : Int) + 1) (hp : (z + y) % 2 = 0) : ∃ b ∈ l, ((z, y) : Knot) = lowK b ∨ ((z, y) : Knot) = uppK b := by
 have hs := h.some_ j hj
 subst hy
 by_cases e : lo j ≤ z - 1
 ·refine ⟨(z - 1, (j : Int), 1), (h.mem _).2 ⟨j, hj, rfl, by simp only; omega, .inr rfl, by simp only; omega, by simp only; omega, by simp only; omega⟩, .inr ?_⟩
  simp only [uppK, Prod.mk.injEq, and_true]; omega
 ·refine ⟨(z + 1, (j : Int), -1), (h.mem _).2 ⟨j, hj, rfl, by simp only; omega, .inl rfl, by simp only; omega, by simp only; omega, by simp only; omega⟩, .inr ?_⟩
  simp only [uppK, Prod.mk.injEq, and_true]; omega
def hulL (lo : Nat → Int) (H r : Nat) : Int := if r = 0 then lo 0 else if r = H then lo (r - 1) else min (lo r) (lo (r - 1))
def hulH (hi : Nat → Int) (H r : Nat) : Int := if r = 0 then hi 0 else if r = H then hi (r - 1) else max (hi r) (hi (r - 1))
def knR (lo hi : Nat → Int) (H r : Nat) : List Knot := rowP (hulL lo H r) (hulH hi H r) (r : Int) (r : Int)
theorem IvNet.knots (h : IvNet l lo hi H) : (holeK l).length = (flatR (knR lo hi H) (H + 1)).length := by
 refine len_same (sortedK_nodup (holeK_sorted _)) (flatR_nodup (fun r => rowP_nodup _ _ _ _) (fun r k hk => (rowP_mem.1 hk).1) _) fun k => ?_
 rw [holeK_ends, flatR_mem]
 have hp := h.pos
 constructor
 ·rintro ⟨b, hb, hk⟩
  obtain ⟨j, hj, g1, g2, g3, g4, g5, g6⟩ := (h.mem b).1 hb
  rcases hk with rfl | rfl
  ·refine ⟨j, by omega, rowP_mem.2 ⟨g1, ?_, ?_, ?_⟩⟩
   ·show hulL lo H j ≤ b.1
    unfold hulL
    split
    ·rename_i e; subst e; exact g4.1
    ·split
     ·omega
     ·omega
   ·show b.1 ≤ hulH hi H j
    unfold hulH
    split
    ·rename_i e; subst e; exact g4.2
    ·split
     ·omega
     ·omega
   ·exact g2
  ·refine ⟨j + 1, by omega, rowP_mem.2 ⟨?_, ?_, ?_, ?_⟩⟩
   ·show b.2.1 + 1 = _
    omega
   ·show hulL lo H (j + 1) ≤ b.1 + b.2.2
    unfold hulL
    rw [if_neg (by omega), Nat.add_sub_cancel]
    split
    ·exact g5
    ·omega
   ·show b.1 + b.2.2 ≤ hulH hi H (j + 1)
    unfold hulH
    rw [if_neg (by omega), Nat.add_sub_cancel]
    split
    ·exact g6
    ·omega
   ·show (b.1 + b.2.2 + ((j + 1 : Nat) : Int)) % 2 = 0
    omega
 ·rintro ⟨r, hr, hk⟩
  obtain ⟨g1, g2, g3, g4⟩ := rowP_mem.1 hk
  obtain ⟨x, y⟩ := k
  simp only at g1 g2 g3 g4
  subst g1
  unfold hulL at g2
  unfold hulH at g3
  by_cases e0 : r = 0
  ·subst e0
   rw [if_pos rfl] at g2 g3
   exact h.low hp g2 g3 g4
  ·rw [if_neg e0] at g2 g3
   by_cases e1 : r = H
   ·rw [if_pos e1] at g2 g3
    exact h.upp (j := r - 1) (by omega) g2 g3 (by omega) g4
   ·rw [if_neg e1] at g2 g3
    have hl := h.lap (r - 1) (by omega)
    rw [Nat.sub_add_cancel (by omega)] at hl
    by_cases e2 : lo r ≤ x ∧ x ≤ hi r
    ·exact h.low (by omega) e2.1 e2.2 g4
    ·exact h.upp (j := r - 1) (by omega) (by omega) (by omega) (by omega) g4
def msR (lo hi : Nat → Int) (r : Nat) : List Knot := if r = 0 then [] else rowP (max (lo r) (lo (r - 1)) + 1) (min (hi r) (hi (r - 1)) - 1) (r : Int) ((r : Int) + 1)
theorem IvNet.meshes (h : IvNet l lo hi H) : (meshL l l).length = (flatR (msR lo hi) H).length := by
 refine len_same (meshL_nodup (sortedB_nodup h.sorted)) (flatR_nodup (fun r => ?_) (fun r k hk => ?_) _) fun k => ?_
 ·unfold msR
  split
  ·simp
  ·exact rowP_nodup _ _ _ _
 ·unfold msR at hk
  split at hk
  ·cases hk
  ·exact (rowP_mem.1 hk).1
 ·rw [meshL_mem, flatR_mem]
  obtain ⟨x, y⟩ := k
  unfold MeshAt
  constructor
  ·intro hm
   obtain ⟨j0, a1, a2, a3, a4, a5, a6, a7⟩ := (h.mem _).1 (hm 0 (by omega))
   obtain ⟨j1, b1, b2, b3, b4, b5, b6, b7⟩ := (h.mem _).1 (hm 1 (by omega))
   obtain ⟨j2, c1, c2, c3, c4, c5, c6, c7⟩ := (h.mem _).1 (hm 2 (by omega))
   obtain ⟨j3, d1, d2, d3, d4, d5, d6, d7⟩ := (h.mem _).1 (hm 3 (by omega))
   simp only [mshB] at a2 a3 a5 a6 a7 b2 b3 b5 b6 b7 c2 c3 c5 c6 c7 d2 d3 d5 d6 d7
   have e1 : j1 = j0 := by omega
   have e2 : j2 = j0 + 1 := by omega
   have e3 : j3 = j0 + 1 := by omega
   subst e1 e2 e3
   refine ⟨j1 + 1, by omega, ?_⟩
   unfold msR
   rw [if_neg (by omega), Nat.add_sub_cancel]
   refine rowP_mem.2 ⟨?_, ?_, ?_, ?_⟩ <;> simp only <;> omega
  ·rintro ⟨r, hr, hk⟩ i hi
   unfold msR at hk
   split at hk
   ·cases hk
   ·obtain ⟨g1, g2, g3, g4⟩ := rowP_mem.1 hk
    simp only at g1 g2 g3 g4
    rename_i e0
    obtain ⟨m, rfl⟩ : ∃ m, r = m + 1 := ⟨r - 1, by omega⟩
    rw [Nat.add_sub_cancel] at g2 g3
    refine (h.mem _).2 ?_
    obtain rfl | rfl | rfl | rfl : i = 0 ∨ i = 1 ∨ i = 2 ∨ i = 3 := by omega
    ·refine ⟨m, by omega, ?_⟩; simp only [mshB, true_or, true_and]; omega
    ·refine ⟨m, by omega, ?_⟩; simp only [mshB, or_true, true_and]; omega
    ·refine ⟨m + 1, by omega, ?_⟩; simp only [mshB, or_true, true_and]; omega
    ·refine ⟨m + 1, by omega, ?_⟩; simp only [mshB, true_or, true_and]; omega
theorem IvNet.rows (h : IvNet l lo hi H) : ∀ n : Nat, n + 1 ≤ H → sumI (fun r => ((knR lo hi H r).length : Int)) (n + 1) + sumI (fun r => ((msR lo hi r).length : Int)) (n + 1) = sumI (fun j => hi j - lo j) n + pC (lo n) (hi n) (n : Int)
 | 0, hn => by
  have hs := h.some_ 0 (by omega)
  have e1 : ((knR lo hi H 0).length : Int) = pC (lo 0) (hi 0) ((0 : Nat) : Int) := by
   unfold knR
   have a : hulL lo H 0 = lo 0 := if_pos rfl
   have b : hulH hi H 0 = hi 0 := if_pos rfl
   rw [a, b]
   exact rowP_len _ _ (pC_nn _ (by omega))
  have e2 : ((msR lo hi 0).length : Int) = 0 := rfl
  simp only [sumI]
  rw [e1, e2]
  omega
 | n + 1, hn => by
  have ih := IvNet.rows h n (by omega)
  have hl := h.lap n (by omega)
  have hs := h.some_ n (by omega)
  have hs1 := h.some_ (n + 1) (by omega)
  have e1 : ((knR lo hi H (n + 1)).length : Int) = pC (min (lo (n + 1)) (lo n)) (max (hi (n + 1)) (hi n)) ((n + 1 : Nat) : Int) := by
   unfold knR
   have a : hulL lo H (n + 1) = min (lo (n + 1)) (lo n) := by unfold hulL; rw [if_neg (by omega), if_neg (by omega), Nat.add_sub_cancel]
   have b : hulH hi H (n + 1) = max (hi (n + 1)) (hi n) := by unfold hulH; rw [if_neg (by omega), if_neg (by omega), Nat.add_sub_cancel]
   rw [a, b]
   exact rowP_len _ _ (pC_nn _ (by omega))
  have e2 : ((msR lo hi (n + 1)).length : Int) = pC (max (lo (n + 1)) (lo n)) (min (hi (n + 1)) (hi n)) ((n + 1 : Nat) : Int) - 1 := by
   unfold msR
   rw [if_neg (by omega), Nat.add_sub_cancel, rowP_len _ _ (by rw [pC_in]; have := pC_pos (u := max (lo (n + 1)) (lo n)) (v := min (hi (n + 1)) (hi n)) ((n + 1 : Nat) : Int) (by omega); omega), pC_in]
  have q1 := pC_hull (lo (n + 1)) (hi (n + 1)) (lo n) (hi n) ((n + 1 : Nat) : Int)
  have q2 := pC_two (u := lo n) (v := hi n) (n : Int) (by omega)
  have e3 : ((n + 1 : Nat) : Int) = (n : Int) + 1 := by omega
  have k1 : sumI (fun r => ((knR lo hi H r).length : Int)) (n + 1 + 1) = sumI (fun r => ((knR lo hi H r).length : Int)) (n + 1) + ((knR lo hi H (n + 1)).length : Int) := rfl
  have k2 : sumI (fun r => ((msR lo hi r).length : Int)) (n + 1 + 1) = sumI (fun r => ((msR lo hi r).length : Int)) (n + 1) + ((msR lo hi (n + 1)).length : Int) := rfl
  have k3 : sumI (fun j => hi j - lo j) (n + 1) = sumI (fun j => hi j - lo j) n + (hi n - lo n) := rfl
  rw [k1, k2, k3, e1, e2]
  rw [e3] at q1 ⊢
  omega
theorem IvNet.euler (h : IvNet l lo hi H) : ((holeK l).length : Int) + (meshL l l).length = (l.length : Int) + 1 := by
 have hp := h.pos
 obtain ⟨n, rfl⟩ : ∃ n, H = n + 1 := ⟨H - 1, by omega⟩
 have hr := h.rows n (Nat.le_refl _)
 have hs := h.some_ n (by omega)
 have e1 : ((knR lo hi (n + 1) (n + 1)).length : Int) = pC (lo n) (hi n) ((n : Int) + 1) := by
  unfold knR
  have a : hulL lo (n + 1) (n + 1) = lo n := by unfold hulL; rw [if_neg (by omega), if_pos rfl, Nat.add_sub_cancel]
  have b : hulH hi (n + 1) (n + 1) = hi n := by unfold hulH; rw [if_neg (by omega), if_pos rfl, Nat.add_sub_cancel]
  rw [a, b]
  exact rowP_len _ _ (pC_nn _ (by omega))
 have q2 := pC_two (u := lo n) (v := hi n) (n : Int) (by omega)
 rw [h.knots, h.meshes, flatR_len, flatR_len, h.len]
 have k1 : sumI (fun r => ((knR lo hi (n + 1) r).length : Int)) (n + 1 + 1) = sumI (fun r => ((knR lo hi (n + 1) r).length : Int)) (n + 1) + ((knR lo hi (n + 1) (n + 1)).length : Int) := rfl
 have k3 : sumI (fun j => hi j - lo j) (n + 1) = sumI (fun j => hi j - lo j) n + (hi n - lo n) := rfl
 rw [k1, k3, e1]
 omega
def zbar (j : Nat) (z : Int) : Bar := if (z + (j : Int)) % 2 = 0 then (z, (j : Int), 1) else (z + 1, (j : Int), -1)
theorem IvNet.zmem (h : IvNet l lo hi H) {j : Nat} (hj : j < H) {z : Int} (h1 : lo j ≤ z) (h2 : z + 1 ≤ hi j) : zbar j z ∈ l := by
 refine (h.mem _).2 ⟨j, hj, ?_⟩
 unfold zbar
 split
 ·simp only [or_true, true_and]; omega
 ·simp only [true_or, true_and]; omega
theorem IvNet.zof (h : IvNet l lo hi H) {b : Bar} (hb : b ∈ l) : ∃ (j : Nat) (z : Int), j < H ∧ lo j ≤ z ∧ z + 1 ≤ hi j ∧ b = zbar j z := by
 obtain ⟨j, hj, g1, g2, g3, g4, g5, g6⟩ := (h.mem b).1 hb
 obtain ⟨x, y, s⟩ := b
 simp only at g1 g2 g3 g4 g5 g6
 subst g1
 rcases g3 with rfl | rfl
 ·refine ⟨j, x - 1, hj, by omega, by omega, ?_⟩
  unfold zbar
  rw [if_neg (by omega), Int.sub_add_cancel]
 ·refine ⟨j, x, hj, by omega, by omega, ?_⟩
  unfold zbar
  rw [if_pos g2]
theorem ztch (j : Nat) (z : Int) : Tch (zbar j z) (zbar j (z + 1)) := by
 unfold zbar
 by_cases e : (z + (j : Int)) % 2 = 0
 ·rw [if_pos e, if_neg (by omega)]
  refine .inr (.inr (.inr ?_))
  simp only [uppK, Prod.mk.injEq, and_true]; omega
 ·rw [if_neg e, if_pos (by omega)]
  exact .inl rfl
theorem ztch_up (j : Nat) (z : Int) : Tch (zbar (j + 1) z) (zbar j z) := by
 unfold zbar
 by_cases e : (z + (j : Int)) % 2 = 0
 ·rw [if_pos e, if_neg (by omega)]
  refine .inr (.inl ?_)
  simp only [lowK, uppK, Prod.mk.injEq, true_and]; omega
 ·rw [if_neg e, if_pos (by omega)]
  refine .inr (.inl ?_)
  simp only [lowK, uppK, Prod.mk.injEq]; omega
theorem IvNet.slide (h : IvNet l lo hi H) {j : Nat} (hj : j < H) : ∀ (n : Nat) (z : Int), lo j ≤ z → z + n + 1 ≤ hi j → Conn l (zbar j z) (zbar j (z + n))
 | 0, z, _, _ => by rw [show z + ((0 : Nat) : Int) = z by omega]; exact .refl
 | n + 1, z, h1, h2 => by
  refine (IvNet.slide h hj n z h1 (by omega)).step (h.zmem hj (by omega) (by omega)) ?_
  rw [show z + ((n + 1 : Nat) : Int) = z + (n : Int) + 1 by omega]
  exact ztch _ _
theorem IvNet.strip (h : IvNet l lo hi H) {j : Nat} (hj : j < H) {z t : Int} (h1 : lo j ≤ z ∧ z + 1 ≤ hi j) (h2 : lo j ≤ t ∧ t + 1 ≤ hi j) : Conn l (zbar j z) (zbar j t) := by
 by_cases e : z ≤ t
 ·have := h.slide hj (t - z).toNat z h1.1 (by omega)
  rwa [show z + ((t - z).toNat : Int) = t by omega] at this
 ·have := h.slide hj (z - t).toNat t h2.1 (by omega)
  rw [show t + ((z - t).toNat : Int) = z by omega] at this
  exact this.symm (h.zmem hj h2.1 h2.2)
theorem IvNet.conn (h : IvNet l lo hi H) : ∀ (j : Nat) (_ : j < H) (z : Int), lo j ≤ z → z + 1 ≤ hi j → Conn l (zbar j z) (zbar 0 (lo 0))
 | 0, hj, z, h1, h2 => h.strip hj ⟨h1, h2⟩ ⟨by omega, h.some_ 0 hj⟩
 | j + 1, hj, z, h1, h2 => by
  have hl := h.lap j hj
  obtain ⟨u, hu⟩ : ∃ u, max (lo j) (lo (j + 1)) = u := ⟨_, rfl⟩
  have c1 := h.strip hj (z := z) (t := u) ⟨h1, h2⟩ ⟨by omega, by omega⟩
  have c2 : Conn l (zbar (j + 1) z) (zbar j u) := c1.step (h.zmem (by omega) (by omega) (by omega)) (ztch_up j u)
  exact c2.trans (IvNet.conn h j (by omega) u (by omega) (by omega))
theorem IvNet.parts (h : IvNet l lo hi H) : (prtC l l.length).length = 1 := by
  have hcn : ∀ x ∈ l, Conn l x (zbar 0 (lo 0)) := fun x hx => by
    obtain ⟨j, z, hj, h1, h2, rfl⟩ := h.zof hx
    exact h.conn j hj z h1 h2
  have hb0 := h.zmem h.pos (z := lo 0) (by omega) (h.some_ 0 h.pos)
  have key : ∀ k, k ≤ l.length → 1 ≤ k → (prtC l k).length = 1 := fun k => by
    induction k with
    | zero => intro _ h; omega
    | succ k ih =>
      intro hk _
      have hlt : k < l.length := by omega
      rw [prtC_succ hlt]
      by_cases hk0 : k = 0
      · subst hk0
        rw [if_neg (by simp [prtC])]
        simp [prtC]
      · have h1 : l[k] ∈ (prtC l k).flatten := by
          refine (prtC_flat l k (by omega) _).2 ⟨0, by omega, by omega, ?_⟩
          exact (hcn _ (List.getElem_mem _)).trans ((hcn _ (List.getElem_mem hlt)).symm (List.getElem_mem hlt))
        rw [if_pos h1]
        exact ih (by omega) (by omega)
  refine key _ (Nat.le_refl _) ?_
  have : 0 < l.length := List.length_pos_of_mem hb0
  omega
def stAt (p : Pan) (j : Nat) : Strp := (strips p).getD j (0, 0, 0, 0)
def loP (p : Pan) (j : Nat) : Int := min (stAt p j).1 (stAt p j).2.2.1
def hiP (p : Pan) (j : Nat) : Int := max (stAt p j).2.1 (stAt p j).2.2.2
theorem stAt_get {p : Pan} {j : Nat} (hj : j < (strips p).length) : stAt p j = (strips p)[j] := by
 unfold stAt
 rw [List.getD_eq_getElem?_getD, List.getElem?_eq_getElem hj, Option.getD_some]
theorem stAt_ok {p : Pan} (h : PanOk p) {j : Nat} (hj : j < (strips p).length) : SOk (stAt p j) (j : Int) := by
 rw [stAt_get hj]
 exact strips_ok h j hj
theorem sumI_congr {f g : Nat → Int} : ∀ n : Nat, (∀ j, j < n → f j = g j) → sumI f n = sumI g n
 | 0, _ => rfl
 | n + 1, h => by
  have ih := sumI_congr (f := f) (g := g) n fun j hj => h j (by omega)
  have h0 := h n (by omega)
  have e1 : sumI f (n + 1) = sumI f n + f n := rfl
  have e2 : sumI g (n + 1) = sumI g n + g n := rfl
  omega
theorem netN_sum (l : List Strp) : ∀ n : Nat, ((netN l n).length : Int) = sumI (fun j => ((barsS (l.getD j (0, 0, 0, 0)) (j : Int)).length : Int)) n
 | 0 => rfl
 | n + 1 => by
  rw [netN, List.length_append]
  have ih := netN_sum l n
  have e : sumI (fun j => ((barsS (l.getD j (0, 0, 0, 0)) (j : Int)).length : Int)) (n + 1) = sumI (fun j => ((barsS (l.getD j (0, 0, 0, 0)) (j : Int)).length : Int)) n + ((barsS (l.getD n (0, 0, 0, 0)) (n : Int)).length : Int) := rfl
  omega
theorem pan_iv {p : Pan} (h : PanOk p) : IvNet (netL p) (loP p) (hiP p) (strips p).length where
 pos := by
  have := h.high
  rw [strips_len]
  omega
 some_ j hj := by
  have := (stAt_ok h hj).wide
  unfold loP hiP
  omega
 lap j hj := by
  obtain ⟨e1, e2⟩ := sid_lens h
  have hn := strips_len p
  have hh := h.high
  have w := free_at h (j + 1) (by omega)
  obtain ⟨_, _, a2⟩ := hit_sidP p false j (by omega)
  obtain ⟨_, b2, _⟩ := hit_sidP p true j (by omega)
  obtain ⟨⟨_, c1⟩, _⟩ := hit_sidP p false (j + 1) (by omega)
  obtain ⟨⟨d1, _⟩, _⟩ := hit_sidP p true (j + 1) (by omega)
  unfold loP hiP
  rw [stAt_get (show j < (strips p).length by omega), stAt_get hj, strips_get j (by omega) (by omega) (by omega), strips_get (j + 1) hj (by omega) (by omega)]
  simp only
  omega
 mem b := by
  constructor
  ·intro hb
   obtain ⟨n, hn, g1, g2, g3, g4, g5, g6, g7⟩ := netL_at hb
   have hs := strips_ok h n hn
   refine ⟨n, hn, g1, g5, g4, ?_⟩
   unfold loP hiP
   rw [stAt_get hn]
   omega
  ·rintro ⟨n, hn, g1, g2, g3, g4, g5, g6⟩
   obtain ⟨s1, s2, s3⟩ := strips_ok h n hn
   unfold loP at g4 g5
   unfold hiP at g4 g6
   rw [stAt_get hn] at g4 g5 g6
   obtain ⟨x, y, c⟩ := b
   simp only at g1 g2 g3 g4 g5 g6
   subst g1
   refine netL_put hn ?_ ?_ g3 g2 ?_ ?_ <;> omega
 sorted := netN_asc _ _
 len := by
  unfold netL
  rw [netN_sum]
  refine sumI_congr _ fun j hj => ?_
  have hs := barsS_cnt (stAt_ok h hj)
  show ((barsS (stAt p j) (j : Int)).length : Int) = _
  rw [hs]
  rfl
theorem pan_cnt {p : Pan} (h : PanOk p) (hN : netE (netL p) = 0) : ∃ K M : Int, cntA (netL p) = #[.int .i64 K, .int .i64 (netL p).length, .int .i64 M, .int .i64 1, .int .i64 0] := by
 have iv := pan_iv h
 have h4 := iv.parts
 have h5 := iv.euler
 have hok := netE_ok hN
 rw [← partsL_eq hok.sorted fun b hb => (hok.ok b hb).2.2] at h4
 refine ⟨((holeK (netL p)).length : Int), ((meshL (netL p) (netL p)).length : Int), ?_⟩
 unfold cntA
 rw [if_pos hN, h4, show ((netL p).length : Int) - (holeK (netL p)).length + ((1 : Nat) : Int) - (meshL (netL p) (netL p)).length = 0 by omega]
 rfl
theorem row_in {p : Pan} (h : PanOk p) {y : Nat} {z : Int} (hk : (z, (y : Int)) ∈ holeK (netL p)) : (rowsF (netL p) y).1 ≤ z ∧ z ≤ (rowsF (netL p) y).2 := by
 have hx : z ∈ xsB (netL p) (y : Int) := by
  rw [← xs_mem]
  unfold xsK
  rw [List.mem_map]
  exact ⟨(z, (y : Int)), List.mem_filter.2 ⟨hk, by simp⟩, rfl⟩
 unfold rowsF
 rw [rowsF_go y _ _ fun b hb => (netL_near h hb).1]
 exact (mm_fold _ _).1 z hx
theorem row_ends {p : Pan} (h : PanOk p) {y : Nat} (hy : y < (strips p).length) : (rowsF (netL p) y).1 - 1 ≤ (strips p)[y].1 ∧ (strips p)[y].2.1 ≤ (rowsF (netL p) y).2 + 1 ∧ (rowsF (netL p) (y + 1)).1 ≤ (strips p)[y].2.2.1 + 1 ∧ (strips p)[y].2.2.2 - 1 ≤ (rowsF (netL p) (y + 1)).2 := by
 have iv := pan_iv h
 obtain ⟨s1, s2, s3⟩ := strips_ok h y hy
 have e1 : loP p y = min (strips p)[y].1 (strips p)[y].2.2.1 := by unfold loP; rw [stAt_get hy]
 have e2 : hiP p y = max (strips p)[y].2.1 (strips p)[y].2.2.2 := by unfold hiP; rw [stAt_get hy]
 obtain ⟨a, ha⟩ : ∃ a, (strips p)[y].1 = a := ⟨_, rfl⟩
 obtain ⟨b, hb⟩ : ∃ b, (strips p)[y].2.1 = b := ⟨_, rfl⟩
 obtain ⟨c, hc⟩ : ∃ c, (strips p)[y].2.2.1 = c := ⟨_, rfl⟩
 obtain ⟨d, hd⟩ : ∃ d, (strips p)[y].2.2.2 = d := ⟨_, rfl⟩
 rw [ha, hb, hc, hd] at s3
 rw [ha, hc] at e1 s1
 rw [hb, hd] at e2 s2
 rw [ha, hb, hc, hd]
 have r1 := row_in h ((holeK_ends _ _).2 (iv.low hy (z := a + (a + (y : Int)) % 2) (by omega) (by omega) (by omega)))
 have r2 := row_in h ((holeK_ends _ _).2 (iv.low hy (z := b - (b + (y : Int)) % 2) (by omega) (by omega) (by omega)))
 have r3 := row_in h (y := y + 1) ((holeK_ends _ _).2 (iv.upp hy (z := c + (c + (y : Int) + 1) % 2) (y := ((y + 1 : Nat) : Int)) (by omega) (by omega) (by omega) (by omega)))
 have r4 := row_in h (y := y + 1) ((holeK_ends _ _).2 (iv.upp hy (z := d - (d + (y : Int) + 1) % 2) (y := ((y + 1 : Nat) : Int)) (by omega) (by omega) (by omega) (by omega)))
 omega
end Go.Proofs.YtkkefahobjlagaaGreatDoor
namespace Go.Proofs.YtkkefahobjlagaaGreatDoor
open Go.RowKit Go.ChangeMaps
set_option maxHeartbeats 4000000
set_option maxRecDepth 100000
attribute [local go_sem] Oper.semAt_some
theorem rPlain_any {vL vR : Value} (p : Pan) (w : World) (hL : SlE w vL p.2.2.1) (hR : SlE w vR p.2.2.2) (hok : PanOk p) :
  Calls Tryz.prog 24 #[.agg #[sV p.1, .int .i64 p.2.1, vL, vR]] w (fun e w' => ∃ xL xR, e = .returned (.agg #[sV p.1, .int .i64 p.2.1, xL, xR]) ∧ Own ec 3 w.heap.size 132 w' xL (plnL (stpL p.2.2.1)) ∧ Own ec 3 w.heap.size 132 w' xR (plnL (stpL p.2.2.2)) ∧ Below w.heap.size w w') := by
 have kL := fun W (hb : Below w.heap.size w W) => rsteps_any p.2.2.1 W (hL.below hb) hok.left
 have kR := fun W (hb : Below w.heap.size w W) => rsteps_any p.2.2.2 W (hR.below hb) hok.right
 have ll := hok.left.len
 have lr := hok.right.len
 have pL := fun (v : Value) W h => rplain_any (v := v) (stpL p.2.2.1) W h (by omega)
 have pR := fun (v : Value) W h => rplain_any (v := v) (stpL p.2.2.2) W h (by omega)
 obtain ⟨AL, cL, rfl, _, _, _⟩ := hL
 obtain ⟨AR, cR, rfl, _, _, _⟩ := hR
 have hs : sV p.1 = .string ⟨p.1.toArray⟩ := rfl
 rw [hs]
 have hP := (Blk.new w 24 #[.string ⟨p.1.toArray⟩, .int .i64 p.2.1, .slice AL p.2.2.1.length cL, .slice AR p.2.2.2.length cR]).alloc (.cells zeroPV 24)
 have hZ := Blk.new1 w (.cells #[.string ⟨p.1.toArray⟩, .int .i64 p.2.1, .slice AL p.2.2.1.length cL, .slice AR p.2.2.2.length cR] 24) 24 zeroPV
 unfold zeroPV at hP hZ
 have fhP := hP.facts
 have fhZ := hZ.facts
 clear hok ll lr hs
 go_enter Tryz.func24, Tryz.ntmps24
 go_upto_region 1 with fail
 obtain ⟨x1, hx1⟩ : ∃ X, (w.alloc (.cells #[.string ⟨p.1.toArray⟩, .int .i64 p.2.1, .slice AL p.2.2.1.length cL, .slice AR p.2.2.2.length cR] 24)).alloc (.cells #[.string ⟨#[]⟩, .int .i64 0, .slice none 0 0, .slice none 0 0] 24) = X := ⟨_, rfl⟩
 have hb1 : Below w.heap.size w x1 := by rw [← hx1]; exact bl_alloc (bl_alloc bl_refl _) _
 rw [hx1] at hP hZ ⊢
 clear hx1
 replace fhP := hP.facts
 replace fhZ := hZ.facts
 refine wp_region_ords [0, 1, 4, 5] [(2, false), (3, false), (8, true), (6, false), (7, false)] [9, 10, 11] (by kernel_rfl) (by kernel_rfl) (fun d _ _ _ _ h => by cases d <;> exact h) ?_
 simp only [List.map_cons, List.map_nil, List.getD_cons_zero, List.getD_cons_succ]
 repeat (go_big_quiet_step (fail))
 refine wpQuiet_nil ?_
 refine wpMid_run rfl (fun K hK => ?_)
 go_simp
 refine (kL _ (by (repeat first|exact J0|assumption|(apply J1;assumption)|apply J2|apply J3|apply J4))).mono ?_
 rintro e w3 ⟨v3, rfl, hO3, hb3⟩
 refine hK _ _ (by (repeat first|exact J0|assumption|(apply J1;assumption)|apply J2|apply J3|apply J4)) ?_
 clear hK K
 have hP_w3 := hP.below (show Below _ _ w3 by (repeat first|exact J0|assumption|(apply J1;assumption)|apply J2|apply J3|apply J4))
 have fhP_w3 := hP_w3.facts
 have hZ_w3 := hZ.below (show Below _ _ w3 by (repeat first|exact J0|assumption|(apply J1;assumption)|apply J2|apply J3|apply J4))
 have fhZ_w3 := hZ_w3.facts
 refine wpMid_run rfl (fun K hK => ?_)
 go_simp
 refine (pL _ _ (hO3.rd sc_len)).mono ?_
 rintro e w4 ⟨v4, rfl, hO4, hb4⟩
 refine hK _ _ (by (repeat first|exact J0|assumption|(apply J1;assumption)|apply J2|apply J3|apply J4)) ?_
 clear hK K
 have hP_w4 := hP.below (show Below _ _ w4 by (repeat first|exact J0|assumption|(apply J1;assumption)|apply J2|apply J3|apply J4))
 have fhP_w4 := hP_w4.facts
 have hZ_w4 := hZ.below (show Below _ _ w4 by (repeat first|exact J0|assumption|(apply J1;assumption)|apply J2|apply J3|apply J4))
 have fhZ_w4 := hZ_w4.facts
 obtain ⟨A4, c4, rfl⟩ := hO4.shape
 refine wpMid_take rfl ?_
 intro K hK
 go_big_quiet_op
 go_big_quiet_on
 refine wpMid_run rfl (fun K hK => ?_)
 go_simp
 refine (kR _ (by (repeat first|exact J0|assumption|(apply J1;assumption)|apply J2|apply J3|apply J4))).mono ?_
 rintro e w6 ⟨v6, rfl, hO6, hb6⟩
 refine hK _ _ (by (repeat first|exact J0|assumption|(apply J1;assumption)|apply J2|apply J3|apply J4)) ?_
 clear hK K
 have hP_w6 := hP.below (show Below _ _ w6 by (repeat first|exact J0|assumption|(apply J1;assumption)|apply J2|apply J3|apply J4))
 have fhP_w6 := hP_w6.facts
 have hZ_w6 := hZ.below (show Below _ _ w6 by (repeat first|exact J0|assumption|(apply J1;assumption)|apply J2|apply J3|apply J4))
 have fhZ_w6 := hZ_w6.facts
 refine wpMid_run rfl (fun K hK => ?_)
 go_simp
 refine (pR _ _ (hO6.rd sc_len)).mono ?_
 rintro e w7 ⟨v7, rfl, hO7, hb7⟩
 refine hK _ _ (by (repeat first|exact J0|assumption|(apply J1;assumption)|apply J2|apply J3|apply J4)) ?_
 clear hK K
 have hP_w7 := hP.below (show Below _ _ w7 by (repeat first|exact J0|assumption|(apply J1;assumption)|apply J2|apply J3|apply J4))
 have fhP_w7 := hP_w7.facts
 have hZ_w7 := hZ.below (show Below _ _ w7 by (repeat first|exact J0|assumption|(apply J1;assumption)|apply J2|apply J3|apply J4))
 have fhZ_w7 := hZ_w7.facts
 obtain ⟨A7, c7, rfl⟩ := hO7.shape
 refine wpMid_nil ?_
 go_upto_region 2 with fail
 have oA := hO4.below (show Below w4.heap.size w4 w7 by (repeat first|exact J0|assumption|(apply J1;assumption)|apply J2|apply J3|apply J4))
 have oB := hO7
 have hz7 : w.heap.size + 1 < w7.heap.size := hZ_w7.lt
 have hs3 : w.heap.size + 2 ≤ w3.heap.size := Nat.le_trans (show w.heap.size + 2 ≤ x1.heap.size from hZ.lt) (show x1.heap.size ≤ w3.heap.size from Below.size (by (repeat first|exact J0|assumption|(apply J1;assumption)|apply J2|apply J3|apply J4)))
 have hs6 : w.heap.size + 2 ≤ w6.heap.size := Nat.le_trans (show w.heap.size + 2 ≤ x1.heap.size from hZ.lt) (show x1.heap.size ≤ w6.heap.size from Below.size (by (repeat first|exact J0|assumption|(apply J1;assumption)|apply J2|apply J3|apply J4)))
 have hbw7 : Below w.heap.size w w7 := by (repeat first|exact J0|assumption|(apply J1;assumption)|apply J2|apply J3|apply J4)
 obtain ⟨LA, hLA⟩ : ∃ n, (plnL (stpL p.2.2.1)).length = n := ⟨_, rfl⟩
 obtain ⟨LB, hLB⟩ : ∃ n, (plnL (stpL p.2.2.2)).length = n := ⟨_, rfl⟩
 rw [hLA] at oA ⊢
 rw [hLB] at oB ⊢
 have oA8 := (oA.set (p := ⟨w.heap.size, 2, none⟩) (fun e => by have := (oA.lt _ e).1; simp only at this; omega) (.slice A4 LA c4))
 have oB8 := (oB.set (p := ⟨w.heap.size, 2, none⟩) (fun e => by have := (oB.lt _ e).1; simp only at this; omega) (.slice A4 LA c4))
 have oA9 := (oA8.set (p := ⟨w.heap.size, 3, none⟩) (fun e => by have := (oA8.lt _ e).1; simp only at this; omega) (.slice A7 LB c7))
 have oB9 := (oB8.set (p := ⟨w.heap.size, 3, none⟩) (fun e => by have := (oB8.lt _ e).1; simp only at this; omega) (.slice A7 LB c7))
 have hP9 := (hP_w7.set_ 2 (.slice A4 LA c4)).set_ 3 (.slice A7 LB c7)
 have hZ9 := (hZ_w7.setF (g' := w.heap.size) (i := 2) (u := .slice A4 LA c4) (by omega)).setF (g' := w.heap.size) (i := 3) (u := .slice A7 LB c7) (by omega)
 have hb9 : Below w.heap.size w ((w7.setCell ⟨w.heap.size, 2, none⟩ (.slice A4 LA c4)).setCell ⟨w.heap.size, 3, none⟩ (.slice A7 LB c7)) := bl_set (bl_set hbw7 (Nat.le_refl _) _) (Nat.le_refl _) _
 obtain ⟨w9, hw9⟩ : ∃ X, (w7.setCell ⟨w.heap.size, 2, none⟩ (.slice A4 LA c4)).setCell ⟨w.heap.size, 3, none⟩ (.slice A7 LB c7) = X := ⟨_, rfl⟩
 rw [hw9] at oA9 oB9 hP9 hZ9 hb9 ⊢
 have hP9 : Blk w9 w.heap.size 24 #[.string ⟨p.1.toArray⟩, .int .i64 p.2.1, .slice A4 LA c4, .slice A7 LB c7] := hP9
 have fP9 := hP9.facts
 clear hw9 oA oB oA8 oB8 hP hZ fhP fhZ
 go_wp2_with (refine wpList_store_blk hZ9 rfl _ _ _ rfl rfl rfl (by rfl) (by kernel_rfl) (by kernel_rfl) ?_; intro w12 hZ12 hc12; have f12 := hZ12.facts)
 refine bodyPost_ret (v := .agg #[.string ⟨p.1.toArray⟩, .int .i64 p.2.1, .slice A4 LA c4, .slice A7 LB c7]) (by simp [results, Tryz.results24, go_sem, f12]) rfl ?_
 exact ⟨_, _, rfl, (oA9.chg hc12 (by simp; omega)).base_mono (by omega), (oB9.chg hc12 (by simp; omega)).base_mono (by omega), chg_bl hb9 hc12 (by omega)⟩
end Go.Proofs.YtkkefahobjlagaaGreatDoor

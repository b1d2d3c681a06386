/- Nets whose strips are zigzags that overlap, plain. Conditions: none. -/
import Derived.Test.YtkkefahobjlagaaGreatDoorQ48
import Derived.Test.YtkkefahobjlagaaGreatDoorQ44
import Derived.Test.YtkkefahobjlagaaGreatDoorQ43
import Derived.Test.YtkkefahobjlagaaGreatDoorQ47
import Derived.Test.YtkkefahobjlagaaGreatDoorQ25
import Derived.Test.YtkkefahobjlagaaGreatDoorQ42
namespace Go.Proofs.YtkkefahobjlagaaGreatDoor
open Go.RowKit Go.ChangeMaps
set_option maxHeartbeats 4000000
set_option maxRecDepth 100000
def sumI (f : Nat → Int) : Nat → Int
 | 0 => 0
 | n + 1 => sumI f n + f n
structure IvNet (l : List Bar) (lo hi : Nat → Int) (H : Nat) : Prop where
 pos : 1 ≤ H
 some_ : ∀ j, j < H → lo j + 1 ≤ hi j
 lap : ∀ j, j + 1 < H → max (lo j) (lo (j + 1)) + 1 ≤ min (hi j) (hi (j + 1))
 mem : ∀ b : Bar, b ∈ l ↔ ∃ j : Nat, j < H ∧ b.2.1 = (j : Int) ∧ (b.1 + (j : Int)) % 2 = 0 ∧ (b.2.2 = -1 ∨ b.2.2 = 1) ∧ (lo j ≤ b.1 ∧ b.1 ≤ hi j) ∧ lo j ≤ b.1 + b.2.2 ∧ b.1 + b.2.2 ≤ hi j
 sorted : l.Pairwise bltP
 len : (l.length : Int) = sumI (fun j => hi j - lo j) H
def pC (u v r : Int) : Int := (v - u - (u + r) % 2) / 2 + 1
theorem pC_two {u v : Int} (r : Int) (_ : u ≤ v) : pC u v r + pC u v (r + 1) = v - u + 1 := by unfold pC; omega
theorem pC_nn {u v : Int} (r : Int) (h : u ≤ v) : 0 ≤ pC u v r := by unfold pC; omega
theorem pC_pos {u v : Int} (r : Int) (h : u + 1 ≤ v) : 1 ≤ pC u v r := by unfold pC; omega
theorem pC_in (u v r : Int) : pC (u + 1) (v - 1) (r + 1) = pC u v r - 1 := by unfold pC; omega
theorem pC_hull (u v u' v' r : Int) : pC (min u u') (max v v') r + pC (max u u') (min v v') r = pC u v r + pC u' v' r := by
 have h1 : (min u u' = u ∧ max u u' = u') ∨ (min u u' = u' ∧ max u u' = u) := by omega
 have h2 : (max v v' = v ∧ min v v' = v') ∨ (max v v' = v' ∧ min v v' = v) := by omega
 unfold pC
 rcases h1 with ⟨a, b⟩ | ⟨a, b⟩ <;> rcases h2 with ⟨c, d⟩ | ⟨c, d⟩ <;> rw [a, b, c, d] <;> omega
def rowP (u v y r : Int) : List Knot := rowK (u + (u + r) % 2) y (pC u v r).toNat
theorem rowP_mem {u v y r : Int} {k : Knot} : k ∈ rowP u v y r ↔ k.2 = y ∧ u ≤ k.1 ∧ k.1 ≤ v ∧ (k.1 + r) % 2 = 0 := by
 unfold rowP pC
 rw [rowK_mem]
 constructor
 ·rintro ⟨h1, h2, h3, h4⟩
  exact ⟨h1, by omega, by omega, by omega⟩
 ·rintro ⟨h1, h2, h3, h4⟩
  exact ⟨h1, by omega, by omega, by omega⟩
theorem rowP_nodup (u v y r : Int) : (rowP u v y r).Nodup := rowK_nodup _ _ _
theorem rowP_len {u v : Int} (y r : Int) (h : 0 ≤ pC u v r) : ((rowP u v y r).length : Int) = pC u v r := by
 unfold rowP
 rw [rowK_len]
 omega
def flatR (f : Nat → List Knot) : Nat → List Knot
 | 0 => []
 | n + 1 => flatR f n ++ f n
theorem flatR_mem {f : Nat → List Knot} {k : Knot} : ∀ n, k ∈ flatR f n ↔ ∃ r, r < n ∧ k ∈ f r
 | 0 => by simp [flatR]
 | n + 1 => by
  rw [flatR, List.mem_append, flatR_mem n]
  constructor
  ·rintro (⟨r, h1, h2⟩ | h)
   ·exact ⟨r, by omega, h2⟩
   ·exact ⟨n, by omega, h⟩
  ·rintro ⟨r, h1, h2⟩
   by_cases e : r = n
   ·subst e; exact .inr h2
   ·exact .inl ⟨r, by omega, h2⟩
theorem flatR_nodup {f : Nat → List Knot} (h1 : ∀ r, (f r).Nodup) (h2 : ∀ r, ∀ k ∈ f r, k.2 = (r : Int)) : ∀ n, (flatR f n).Nodup
 | 0 => by simp [flatR]
 | n + 1 => by
  rw [flatR, List.nodup_append]
  refine ⟨flatR_nodup h1 h2 n, h1 n, fun a ha b hb e => ?_⟩
  subst e
  obtain ⟨r, hr, ha⟩ := (flatR_mem n).1 ha
  have := h2 r a ha
  have := h2 n a hb
  omega
variable {l : List Bar} {lo hi : Nat → Int} {H : Nat}
theorem IvNet.low (h : IvNet l lo hi H) {j : Nat} (hj : j < H) {z : Int} (h1 : lo j ≤ z) (h2 : z ≤ hi j) (hp : (z + (j : Int)) % 2 = 0) : ∃ b ∈ l, ((z, (j : Int)) : Knot) = lowK b ∨ ((z, (j : Int)) : Knot) = uppK b := by
 have hs := h.some_ j hj
 by_cases e : z + 1 ≤ hi j
 ·exact ⟨(z, (j : Int), 1), (h.mem _).2 ⟨j, hj, rfl, hp, .inr rfl, ⟨h1, h2⟩, by simp only; omega, by simp only; omega⟩, .inl rfl⟩
 ·exact ⟨(z, (j : Int), -1), (h.mem _).2 ⟨j, hj, rfl, hp, .inl rfl, ⟨h1, h2⟩, by simp only; omega, by simp only; omega⟩, .inl rfl⟩
theorem IvNet.upp (h : IvNet l lo hi H) {j : Nat} (hj : j < H) {z y : Int} (h1 : lo j ≤ z) (h2 : z ≤ hi j) (hy : y = (j : Int) + 1) (hp : (z + y) % 2 = 0) : ∃ b ∈ l, ((z, y) : Knot) = lowK b ∨ ((z, y) : Knot) = uppK b := by
 have hs := h.some_ j hj
 subst hy
 by_cases e : lo j ≤ z - 1
 ·refine ⟨(z - 1, (j : Int), 1), (h.mem _).2 ⟨j, hj, rfl, by simp only; omega, .inr rfl, by simp only; omega, by simp only; omega, by simp only; omega⟩, .inr ?_⟩
  simp only [uppK, Prod.mk.injEq, and_true]; omega
 ·refine ⟨(z + 1, (j : Int), -1), (h.mem _).2 ⟨j, hj, rfl, by simp only; omega, .inl rfl, by simp only; omega, by simp only; omega, by simp only; omega⟩, .inr ?_⟩
  simp only [uppK, Prod.mk.injEq, and_true]; omega
def hulL (lo : Nat → Int) (H r : Nat) : Int := if r = 0 then lo 0 else if r = H then lo (r - 1) else min (lo r) (lo (r - 1))
def hulH (hi : Nat → Int) (H r : Nat) : Int := if r = 0 then hi 0 else if r = H then hi (r - 1) else max (hi r) (hi (r - 1))
def knR (lo hi : Nat → Int) (H r : Nat) : List Knot := rowP (hulL lo H r) (hulH hi H r) (r : Int) (r : Int)
theorem IvNet.knots (h : IvNet l lo hi H) : (holeK l).length = (flatR (knR lo hi H) (H + 1)).length := by
 refine len_same (sortedK_nodup (holeK_sorted _)) (flatR_nodup (fun r => rowP_nodup _ _ _ _) (fun r k hk => (rowP_mem.1 hk).1) _) fun k => ?_
 rw [holeK_ends, flatR_mem]
 have hp := h.pos
 constructor
 ·rintro ⟨b, hb, hk⟩
  obtain ⟨j, hj, g1, g2, g3, g4, g5, g6⟩ := (h.mem b).1 hb
  rcases hk with rfl | rfl
  ·refine ⟨j, by omega, rowP_mem.2 ⟨g1, ?_, ?_, ?_⟩⟩
   ·show hulL lo H j ≤ b.1
    unfold hulL
    split
    ·rename_i e; subst e; exact g4.1
    ·split
     ·omega
     ·omega
   ·show b.1 ≤ hulH hi H j
    unfold hulH
    split
    ·rename_i e; subst e; exact g4.2
    ·split
     ·omega
     ·omega
   ·exact g2
  ·refine ⟨j + 1, by omega, rowP_mem.2 ⟨?_, ?_, ?_, ?_⟩⟩
   ·show b.2.1 + 1 = _
    omega
   ·show hulL lo H (j + 1) ≤ b.1 + b.2.2
    unfold hulL
    rw [if_neg (by omega), Nat.add_sub_cancel]
    split
    ·exact g5
    ·omega
   ·show b.1 + b.2.2 ≤ hulH hi H (j + 1)
    unfold hulH
    rw [if_neg (by omega), Nat.add_sub_cancel]
    split
    ·exact g6
    ·omega
   ·show (b.1 + b.2.2 + ((j + 1 : Nat) : Int)) % 2 = 0
    omega
 ·rintro ⟨r, hr, hk⟩
  obtain ⟨g1, g2, g3, g4⟩ := rowP_mem.1 hk
  obtain ⟨x, y⟩ := k
  simp only at g1 g2 g3 g4
  subst g1
  unfold hulL at g2
  unfold hulH at g3
  by_cases e0 : r = 0
  ·subst e0
   rw [if_pos rfl] at g2 g3
   exact h.low hp g2 g3 g4
  ·rw [if_neg e0] at g2 g3
   by_cases e1 : r = H
   ·rw [if_pos e1] at g2 g3
    exact h.upp (j := r - 1) (by omega) g2 g3 (by omega) g4
   ·rw [if_neg e1] at g2 g3
    have hl := h.lap (r - 1) (by omega)
    rw [Nat.sub_add_cancel (by omega)] at hl
    by_cases e2 : lo r ≤ x ∧ x ≤ hi r
    ·exact h.low (by omega) e2.1 e2.2 g4
    ·exact h.upp (j := r - 1) (by omega) (by omega) (by omega) (by omega) g4
def msR (lo hi : Nat → Int) (r : Nat) : List Knot := if r = 0 then [] else rowP (max (lo r) (lo (r - 1)) + 1) (min (hi r) (hi (r - 1)) - 1) (r : Int) ((r : Int) + 1)
theorem IvNet.meshes (h : IvNet l lo hi H) : (meshL l l).length = (flatR (msR lo hi) H).length := by
 refine len_same (meshL_nodup (sortedB_nodup h.sorted)) (flatR_nodup (fun r => ?_) (fun r k hk => ?_) _) fun k => ?_
 ·unfold msR
  split
  ·simp
  ·exact rowP_nodup _ _ _ _
 ·unfold msR at hk
  split at hk
  ·cases hk
  ·exact (rowP_mem.1 hk).1
 ·rw [meshL_mem, flatR_mem]
  obtain ⟨x, y⟩ := k
  unfold MeshAt
  constructor
  ·intro hm
   obtain ⟨j0, a1, a2, a3, a4, a5, a6, a7⟩ := (h.mem _).1 (hm 0 (by omega))
   obtain ⟨j1, b1, b2, b3, b4, b5, b6, b7⟩ := (h.mem _).1 (hm 1 (by omega))
   obtain ⟨j2, c1, c2, c3, c4, c5, c6, c7⟩ := (h.mem _).1 (hm 2 (by omega))
   obtain ⟨j3, d1, d2, d3, d4, d5, d6, d7⟩ := (h.mem _).1 (hm 3 (by omega))
   simp only [mshB] at a2 a3 a5 a6 a7 b2 b3 b5 b6 b7 c2 c3 c5 c6 c7 d2 d3 d5 d6 d7
   have e1 : j1 = j0 := by omega
   have e2 : j2 = j0 + 1 := by omega
   have e3 : j3 = j0 + 1 := by omega
   subst e1 e2 e3
   refine ⟨j1 + 1, by omega, ?_⟩
   unfold msR
   rw [if_neg (by omega), Nat.add_sub_cancel]
   refine rowP_mem.2 ⟨?_, ?_, ?_, ?_⟩ <;> simp only <;> omega
  ·rintro ⟨r, hr, hk⟩ i hi
   unfold msR at hk
   split at hk
   ·cases hk
   ·obtain ⟨g1, g2, g3, g4⟩ := rowP_mem.1 hk
    simp only at g1 g2 g3 g4
    rename_i e0
    obtain ⟨m, rfl⟩ : ∃ m, r = m + 1 := ⟨r - 1, by omega⟩
    rw [Nat.add_sub_cancel] at g2 g3
    refine (h.mem _).2 ?_
    obtain rfl | rfl | rfl | rfl : i = 0 ∨ i = 1 ∨ i = 2 ∨ i = 3 := by omega
    ·refine ⟨m, by omega, ?_⟩; simp only [mshB, true_or, true_and]; omega
    ·refine ⟨m, by omega, ?_⟩; simp only [mshB, or_true, true_and]; omega
    ·refine ⟨m + 1, by omega, ?_⟩; simp only [mshB, or_true, true_and]; omega
    ·refine ⟨m + 1, by omega, ?_⟩; simp only [mshB, true_or, true_and]; omega
theorem IvNet.rows (h : IvNet l lo hi H) : ∀ n : Nat, n + 1 ≤ H → sumI (fun r => ((knR lo hi H r).length : Int)) (n + 1) + sumI (fun r => ((msR lo hi r).length : Int)) (n + 1) = sumI (fun j => hi j - lo j) n + pC (lo n) (hi n) (n : Int)
 | 0, hn => by
  have hs := h.some_ 0 (by omega)
  have e1 : ((knR lo hi H 0).length : Int) = pC (lo 0) (hi 0) ((0 : Nat) : Int) := by
   unfold knR
   have a : hulL lo H 0 = lo 0 := if_pos rfl
   have b : hulH hi H 0 = hi 0 := if_pos rfl
   rw [a, b]
   exact rowP_len _ _ (pC_nn _ (by omega))
  have e2 : ((msR lo hi 0).length : Int) = 0 := rfl
  simp only [sumI]
  rw [e1, e2]
  omega
 | n + 1, hn => by
  have ih := IvNet.rows h n (by omega)
  have hl := h.lap n (by omega)
  have hs := h.some_ n (by omega)
  have hs1 := h.some_ (n + 1) (by omega)
  have e1 : ((knR lo hi H (n + 1)).length : Int) = pC (min (lo (n + 1)) (lo n)) (max (hi (n + 1)) (hi n)) ((n + 1 : Nat) : Int) := by
   unfold knR
   have a : hulL lo H (n + 1) = min (lo (n + 1)) (lo n) := by unfold hulL; rw [if_neg (by omega), if_neg (by omega), Nat.add_sub_cancel]
   have b : hulH hi H (n + 1) = max (hi (n + 1)) (hi n) := by unfold hulH; rw [if_neg (by omega), if_neg (by omega), Nat.add_sub_cancel]
   rw [a, b]
   exact rowP_len _ _ (pC_nn _ (by omega))
  have e2 : ((msR lo hi (n + 1)).length : Int) = pC (max (lo (n + 1)) (lo n)) (min (hi (n + 1)) (hi n)) ((n + 1 : Nat) : Int) - 1 := by
   unfold msR
   rw [if_neg (by omega), Nat.add_sub_cancel, rowP_len _ _ (by rw [pC_in]; have := pC_pos (u := max (lo (n + 1)) (lo n)) (v := min (hi (n + 1)) (hi n)) ((n + 1 : Nat) : Int) (by omega); omega), pC_in]
  have q1 := pC_hull (lo (n + 1)) (hi (n + 1)) (lo n) (hi n) ((n + 1 : Nat) : Int)
  have q2 := pC_two (u := lo n) (v := hi n) (n : Int) (by omega)
  have e3 : ((n + 1 : Nat) : Int) = (n : Int) + 1 := by omega
  have k1 : sumI (fun r => ((knR lo hi H r).length : Int)) (n + 1 + 1) = sumI (fun r => ((knR lo hi H r).length : Int)) (n + 1) + ((knR lo hi H (n + 1)).length : Int) := rfl
  have k2 : sumI (fun r => ((msR lo hi r).length : Int)) (n + 1 + 1) = sumI (fun r => ((msR lo hi r).length : Int)) (n + 1) + ((msR lo hi (n + 1)).length : Int) := rfl
  have k3 : sumI (fun j => hi j - lo j) (n + 1) = sumI (fun j => hi j - lo j) n + (hi n - lo n) := rfl
  rw [k1, k2, k3, e1, e2]
  rw [e3] at q1 ⊢
  omega
def zbar (j : Nat) (z : Int) : Bar := if (z + (j : Int)) % 2 = 0 then (z, (j : Int), 1) else (z + 1, (j : Int), -1)
theorem IvNet.zmem (h : IvNet l lo hi H) {j : Nat} (hj : j < H) {z : Int} (h1 : lo j ≤ z) (h2 : z + 1 ≤ hi j) : zbar j z ∈ l := by
 refine (h.mem _).2 ⟨j, hj, ?_⟩
 unfold zbar
 split
 ·simp only [or_true, true_and]; omega
 ·simp only [true_or, true_and]; omega
theorem IvNet.zof (h : IvNet l lo hi H) {b : Bar} (hb : b ∈ l) : ∃ (j : Nat) (z : Int), j < H ∧ lo j ≤ z ∧ z + 1 ≤ hi j ∧ b = zbar j z := by
 obtain ⟨j, hj, g1, g2, g3, g4, g5, g6⟩ := (h.mem b).1 hb
 obtain ⟨x, y, s⟩ := b
 simp only at g1 g2 g3 g4 g5 g6
 subst g1
 rcases g3 with rfl | rfl
 ·refine ⟨j, x - 1, hj, by omega, by omega, ?_⟩
  unfold zbar
  rw [if_neg (by omega), Int.sub_add_cancel]
 ·refine ⟨j, x, hj, by omega, by omega, ?_⟩
  unfold zbar
  rw [if_pos g2]
theorem ztch (j : Nat) (z : Int) : Tch (zbar j z) (zbar j (z + 1)) := by
 unfold zbar
 by_cases e : (z + (j : Int)) % 2 = 0
 ·rw [if_pos e, if_neg (by omega)]
  refine .inr (.inr (.inr ?_))
  simp only [uppK, Prod.mk.injEq, and_true]; omega
 ·rw [if_neg e, if_pos (by omega)]
  exact .inl rfl
theorem ztch_up (j : Nat) (z : Int) : Tch (zbar (j + 1) z) (zbar j z) := by
 unfold zbar
 by_cases e : (z + (j : Int)) % 2 = 0
 ·rw [if_pos e, if_neg (by omega)]
  refine .inr (.inl ?_)
  simp only [lowK, uppK, Prod.mk.injEq, true_and]; omega
 ·rw [if_neg e, if_pos (by omega)]
  refine .inr (.inl ?_)
  simp only [lowK, uppK, Prod.mk.injEq]; omega
theorem IvNet.slide (h : IvNet l lo hi H) {j : Nat} (hj : j < H) : ∀ (n : Nat) (z : Int), lo j ≤ z → z + n + 1 ≤ hi j → Conn l (zbar j z) (zbar j (z + n))
 | 0, z, _, _ => by rw [show z + ((0 : Nat) : Int) = z by omega]; exact .refl
 | n + 1, z, h1, h2 => by
  refine (IvNet.slide h hj n z h1 (by omega)).step (h.zmem hj (by omega) (by omega)) ?_
  rw [show z + ((n + 1 : Nat) : Int) = z + (n : Int) + 1 by omega]
  exact ztch _ _
theorem IvNet.strip (h : IvNet l lo hi H) {j : Nat} (hj : j < H) {z t : Int} (h1 : lo j ≤ z ∧ z + 1 ≤ hi j) (h2 : lo j ≤ t ∧ t + 1 ≤ hi j) : Conn l (zbar j z) (zbar j t) := by
 by_cases e : z ≤ t
 ·have := h.slide hj (t - z).toNat z h1.1 (by omega)
  rwa [show z + ((t - z).toNat : Int) = t by omega] at this
 ·have := h.slide hj (z - t).toNat t h2.1 (by omega)
  rw [show t + ((z - t).toNat : Int) = z by omega] at this
  exact this.symm (h.zmem hj h2.1 h2.2)
theorem IvNet.conn (h : IvNet l lo hi H) : ∀ (j : Nat) (_ : j < H) (z : Int), lo j ≤ z → z + 1 ≤ hi j → Conn l (zbar j z) (zbar 0 (lo 0))
 | 0, hj, z, h1, h2 => h.strip hj ⟨h1, h2⟩ ⟨by omega, h.some_ 0 hj⟩
 | j + 1, hj, z, h1, h2 => by
  have hl := h.lap j hj
  obtain ⟨u, hu⟩ : ∃ u, max (lo j) (lo (j + 1)) = u := ⟨_, rfl⟩
  have c1 := h.strip hj (z := z) (t := u) ⟨h1, h2⟩ ⟨by omega, by omega⟩
  have c2 : Conn l (zbar (j + 1) z) (zbar j u) := c1.step (h.zmem (by omega) (by omega) (by omega)) (ztch_up j u)
  exact c2.trans (IvNet.conn h j (by omega) u (by omega) (by omega))
theorem IvNet.parts (h : IvNet l lo hi H) : (prtC l l.length).length = 1 := by
  have hcn : ∀ x ∈ l, Conn l x (zbar 0 (lo 0)) := fun x hx => by
    obtain ⟨j, z, hj, h1, h2, rfl⟩ := h.zof hx
    exact h.conn j hj z h1 h2
  have hb0 := h.zmem h.pos (z := lo 0) (by omega) (h.some_ 0 h.pos)
  have key : ∀ k, k ≤ l.length → 1 ≤ k → (prtC l k).length = 1 := fun k => by
    induction k with
    | zero => intro _ h; omega
    | succ k ih =>
      intro hk _
      have hlt : k < l.length := by omega
      rw [prtC_succ hlt]
      by_cases hk0 : k = 0
      · subst hk0
        rw [if_neg (by simp [prtC])]
        simp [prtC]
      · have h1 : l[k] ∈ (prtC l k).flatten := by
          refine (prtC_flat l k (by omega) _).2 ⟨0, by omega, by omega, ?_⟩
          exact (hcn _ (List.getElem_mem _)).trans ((hcn _ (List.getElem_mem hlt)).symm (List.getElem_mem hlt))
        rw [if_pos h1]
        exact ih (by omega) (by omega)
  refine key _ (Nat.le_refl _) ?_
  have : 0 < l.length := List.length_pos_of_mem hb0
  omega
end Go.Proofs.YtkkefahobjlagaaGreatDoor
namespace Go.Proofs.YtkkefahobjlagaaGreatDoor
open Go.RowKit Go.ChangeMaps
set_option maxHeartbeats 4000000
set_option maxRecDepth 100000
attribute [local go_sem] Oper.semAt_some
theorem pln_good (l : List Stp) (hl : ∀ x ∈ l, ltr x.1) : ∀ e ∈ plnL l, e.1 ≠ [] ∧ e.1.length ≤ 64 ∧ (∀ c ∈ e.1, ltr c) ∧ e.2.1 = 1 := by
 have h : ∀ (l : List Stp) (s : PlS), (∀ x ∈ l, ltr x.1) → PlOk s → (∀ c ∈ s.2.1, ltr c) → (∀ e ∈ s.1, e.1 ≠ [] ∧ e.1.length ≤ 64 ∧ (∀ c ∈ e.1, ltr c) ∧ e.2.1 = 1) → PlOk (l.foldl plS s) ∧ (∀ c ∈ (l.foldl plS s).2.1, ltr c) ∧ ∀ e ∈ (l.foldl plS s).1, e.1 ≠ [] ∧ e.1.length ≤ 64 ∧ (∀ c ∈ e.1, ltr c) ∧ e.2.1 = 1 := by
  intro l
  induction l with
  | nil => intro s _ h1 h2 h3; exact ⟨h1, h2, h3⟩
  | cons x r ih =>
   intro s hx h1 h2 h3
   have hx0 := hx x (List.mem_cons_self ..)
   refine ih (plS s x) (fun y hy => hx y (List.mem_cons_of_mem _ hy)) (plS_ok h1 x).1 ?_ ?_
   ·by_cases hc : cutS s x = true
    ·rw [plR_cut h1 hc]
     intro c hm
     simp only [List.mem_singleton] at hm
     rw [hm]; exact hx0
    ·rw [plR_on h1 (by simpa using hc)]
     intro c hm
     rcases List.mem_append.1 hm with hm | hm
     ·exact h2 c hm
     ·simp only [List.mem_singleton] at hm
      rw [hm]; exact hx0
   ·by_cases hc : cutS s x = true
    ·rw [plR_cut h1 hc]
     intro e he
     simp only at he
     unfold refO at he
     split at he
     ·exact h3 e he
     ·rename_i hw
      rcases List.mem_append.1 he with he | he
      ·exact h3 e he
      ·simp only [List.mem_singleton] at he
       rw [he]
       exact ⟨hw, h1.len, h2, rfl⟩
    ·rw [plR_on h1 (by simpa using hc)]
     exact h3
 obtain ⟨h1, h2, h3⟩ := h l ([], [], 0) hl ⟨.inl rfl, by simp⟩ (fun c hc => by cases hc) (fun e he => by cases he)
 rw [← refO_end]
 intro e he
 unfold refO at he
 split at he
 ·exact h3 e he
 ·rename_i hw
  rcases List.mem_append.1 he with he | he
  ·exact h3 e he
  ·simp only [List.mem_singleton] at he
   rw [he]
   exact ⟨hw, h1.len, h2, rfl⟩
theorem pln_side {l : List Stp} (hn : l.length ≤ 64) (hl : ∀ x ∈ l, ltr x.1) : SideOk (plnL l) := by
 have h1 := refO_len l
 rw [refO_end] at h1
 have h2 := (pln_same l).1
 refine ⟨by omega, fun e he => ?_, by omega⟩
 obtain ⟨q1, q2, q3, q4⟩ := pln_good l hl e he
 unfold edgE
 have hw : wrongW e.1 = false := by
  unfold wrongW
  rw [List.any_eq_false]
  intro c hc
  rcases q3 c hc with h | h | h <;> rw [h] <;> decide
 rw [hw, q4]
 unfold whenI
 rw [decide_eq_false q1, decide_eq_false (by omega)]
 decide
theorem cut_top {p : Pan} {i k : Nat} (hi : i < (outP p false).length) (hk : k < (outP p true).length) : topX (cutA p i k) true - topX (cutA p i k) false = cutD p i k := by
 have e1 : topX (cutA p i k) false = ((outP p false).getD i (0, 0)).1 := by
  have h : posK false (fromP p false) (stpL (plnL ((stpL p.2.2.1).take i))) = posK false (fromP p false) ((stpL p.2.2.1).take i) := SameL.pos (pln_same _)
  have g : (outP p false)[i] = posK false (fromP p false) ((stpL p.2.2.1).take i) := outK_get false _ _ i hi
  rw [List.getD_eq_getElem?_getD, List.getElem?_eq_getElem hi, Option.getD_some, g, ← h]
  rfl
 have e2 : topX (cutA p i k) true = ((outP p true).getD k (0, 0)).1 := by
  have h : posK true (fromP p true) (stpL (plnL ((stpL p.2.2.2).take k))) = posK true (fromP p true) ((stpL p.2.2.2).take k) := SameL.pos (pln_same _)
  have g : (outP p true)[k] = posK true (fromP p true) ((stpL p.2.2.2).take k) := outK_get true _ _ k hk
  rw [List.getD_eq_getElem?_getD, List.getElem?_eq_getElem hk, Option.getD_some, g, ← h]
  rfl
 rw [e1, e2]
 rfl
end Go.Proofs.YtkkefahobjlagaaGreatDoor

/- The cycles of a net, plain. Conditions: the net is in its order. -/
import Derived.Test.YtkkefahobjlagaaGreatDoorQ43
import Derived.Test.YtkkefahobjlagaaGreatDoorQ29
import Derived.Test.YtkkefahobjlagaaGreatDoorQ26
import Derived.Test.YtkkefahobjlagaaGreatDoorQ37
namespace Go.Proofs.YtkkefahobjlagaaGreatDoor
open Go.RowKit Go.ChangeMaps
set_option maxHeartbeats 4000000
set_option maxRecDepth 100000
theorem isMesh_iff (l : List Bar) (b : Bar) : isMesh l b = true ↔ b.2.2 = -1 ∧ (b.1, b.2.1, (1 : Int)) ∈ l ∧ (b.1 - 1, b.2.1 + 1, (1 : Int)) ∈ l ∧ (b.1 + 1, b.2.1 + 1, (-1 : Int)) ∈ l := by
 unfold isMesh hasb
 simp only [Bool.and_eq_true, decide_eq_true_eq, and_assoc]
def mshB (c : Knot) : Nat → Bar
 | 0 => (c.1, c.2 - 1, -1)
 | 1 => (c.1, c.2 - 1, 1)
 | 2 => (c.1 - 1, c.2, 1)
 | _ => (c.1 + 1, c.2, -1)
def MeshAt (l : List Bar) (c : Knot) : Prop := ∀ i, i < 4 → mshB c i ∈ l
theorem meshL_mem (l : List Bar) (c : Knot) : c ∈ meshL l l ↔ MeshAt l c := by
 unfold meshL
 rw [List.mem_map]
 constructor
 ·rintro ⟨b, hb, rfl⟩
  obtain ⟨hb, hm⟩ := List.mem_filter.1 hb
  obtain ⟨h1, h2, h3, h4⟩ := (isMesh_iff l b).1 hm
  obtain ⟨x, y, s⟩ := b
  simp only at h1 h2 h3 h4
  subst h1
  intro i hi
  obtain rfl | rfl | rfl | rfl : i = 0 ∨ i = 1 ∨ i = 2 ∨ i = 3 := by omega
  ·simp only [mshB]; rw [show y + 1 - 1 = y by omega]; exact hb
  ·simp only [mshB]; rw [show y + 1 - 1 = y by omega]; exact h2
  ·exact h3
  ·exact h4
 ·intro h
  refine ⟨mshB c 0, List.mem_filter.2 ⟨h 0 (by omega), (isMesh_iff l _).2 ⟨rfl, h 1 (by omega), ?_, ?_⟩⟩, ?_⟩
  ·have := h 2 (by omega)
   simp only [mshB] at this ⊢
   rw [show c.2 - 1 + 1 = c.2 by omega]; exact this
  ·have := h 3 (by omega)
   simp only [mshB] at this ⊢
   rw [show c.2 - 1 + 1 = c.2 by omega]; exact this
  ·simp only [mshB]; rw [show c.2 - 1 + 1 = c.2 by omega]
theorem meshL_nodup {l : List Bar} (hn : l.Nodup) : (meshL l l).Nodup := by
 unfold meshL
 refine nodup_map (hn.filter _) fun a ha b hb e => ?_
 have h1 := ((isMesh_iff l a).1 (List.mem_filter.1 ha).2).1
 have h2 := ((isMesh_iff l b).1 (List.mem_filter.1 hb).2).1
 obtain ⟨x, y, s⟩ := a
 obtain ⟨x', y', s'⟩ := b
 simp only [Prod.mk.injEq] at *
 omega
structure Motion (g : Knot → Knot) (gB : Bar → Bar) : Prop where
 inj : ∀ u v, g u = g v → u = v
 surj : ∀ v, ∃ u, g u = v
 side : ∀ b, Sided b → Sided (gB b)
 ends : ∀ b, Sided b → Leads (gB b) (g (lowK b)) (g (uppK b))
 mesh : ∀ c j, j < 4 → ∃ i, i < 4 ∧ gB (mshB c i) = mshB (g c) j
 mesh' : ∀ c i, i < 4 → ∃ j, j < 4 ∧ gB (mshB c i) = mshB (g c) j
def Moved (gB : Bar → Bar) (l l' : List Bar) : Prop := ∀ x, x ∈ l' ↔ ∃ b ∈ l, gB b = x
theorem bar_of_ends {a b : Bar} (hl : lowK a = lowK b) (hu : uppK a = uppK b) : a = b := by
 obtain ⟨x, y, s⟩ := a
 obtain ⟨x', y', s'⟩ := b
 unfold lowK uppK at *
 simp only [Prod.mk.injEq] at *
 omega
theorem leads_eq {b : Bar} {u v u' v' : Knot} (h : Leads b u v) (h' : Leads b u' v') : u = u' ∧ v = v' ∨ u = v' ∧ v = u' := by
 rcases h with ⟨rfl, rfl⟩ | ⟨rfl, rfl⟩ <;> rcases h' with ⟨rfl, rfl⟩ | ⟨rfl, rfl⟩
 ·exact .inl ⟨rfl, rfl⟩
 ·exact .inr ⟨rfl, rfl⟩
 ·exact .inr ⟨rfl, rfl⟩
 ·exact .inl ⟨rfl, rfl⟩
theorem Motion.injB {g : Knot → Knot} {gB : Bar → Bar} (M : Motion g gB) {a b : Bar} (ha : Sided a) (hb : Sided b) (h : gB a = gB b) : a = b := by
 have h1 := M.ends a ha
 have h2 := M.ends b hb
 rw [h] at h1
 rcases leads_eq h1 h2 with ⟨e1, e2⟩ | ⟨e1, e2⟩
 ·exact bar_of_ends (M.inj _ _ e1) (M.inj _ _ e2)
 ·have e1 := congrArg Prod.snd (M.inj _ _ e1)
  have e2 := congrArg Prod.snd (M.inj _ _ e2)
  unfold lowK uppK at e1 e2
  simp only at e1 e2
  omega
section
variable {g : Knot → Knot} {gB : Bar → Bar} {l l' : List Bar}
theorem Moved.mem (M : Motion g gB) (hd : ∀ b ∈ l, Sided b) (h : Moved gB l l') {b : Bar} (hb : Sided b) : gB b ∈ l' ↔ b ∈ l := by
 rw [h]
 constructor
 ·rintro ⟨c, hc, e⟩
  rwa [← M.injB (hd c hc) hb e]
 ·intro h; exact ⟨b, h, rfl⟩
theorem Moved.len (M : Motion g gB) (hd : ∀ b ∈ l, Sided b) (h : Moved gB l l') (hn : l.Nodup) (hn' : l'.Nodup) : l'.length = l.length := by
 have h1 := length_le_of_sub (l := l.map gB) (D := l') (nodup_map hn fun a ha b hb => M.injB (hd a ha) (hd b hb)) fun x hx => by
  obtain ⟨b, hb, rfl⟩ := List.mem_map.1 hx
  exact (h _).2 ⟨b, hb, rfl⟩
 have h2 := length_le_of_sub (l := l') (D := l.map gB) hn' fun x hx => List.mem_map.2 ((h x).1 hx)
 rw [List.length_map] at h1 h2
 omega
theorem Moved.knots (M : Motion g gB) (hd : ∀ b ∈ l, Sided b) (h : Moved gB l l') (k : Knot) : g k ∈ holeK l' ↔ k ∈ holeK l := by
 rw [holeK_ends, holeK_ends]
 constructor
 ·rintro ⟨c, hc, e⟩
  obtain ⟨b, hb, rfl⟩ := (h c).1 hc
  refine ⟨b, hb, ?_⟩
  rcases M.ends b (hd b hb) with ⟨h1, h2⟩ | ⟨h1, h2⟩
  ·rcases e with e | e
   ·exact .inl (M.inj _ _ (e.trans h1.symm))
   ·exact .inr (M.inj _ _ (e.trans h2.symm))
  ·rcases e with e | e
   ·exact .inr (M.inj _ _ (e.trans h2.symm))
   ·exact .inl (M.inj _ _ (e.trans h1.symm))
 ·rintro ⟨b, hb, e⟩
  refine ⟨gB b, (h _).2 ⟨b, hb, rfl⟩, ?_⟩
  rcases M.ends b (hd b hb) with ⟨h1, h2⟩ | ⟨h1, h2⟩
  ·rcases e with rfl | rfl
   ·exact .inl h1
   ·exact .inr h2
  ·rcases e with rfl | rfl
   ·exact .inr h1
   ·exact .inl h2
theorem same_len {α β : Type} [DecidableEq β] {A : List α} {B : List β} {f : α → β} (hA : A.Nodup) (hB : B.Nodup) (hi : ∀ a ∈ A, ∀ b ∈ A, f a = f b → a = b) (h : ∀ x, x ∈ B ↔ ∃ a ∈ A, f a = x) : B.length = A.length := by
 have h1 := length_le_of_sub (l := A.map f) (D := B) (nodup_map hA hi) fun x hx => (h x).2 (List.mem_map.1 hx)
 have h2 := length_le_of_sub (l := B) (D := A.map f) hB fun x hx => List.mem_map.2 ((h x).1 hx)
 rw [List.length_map] at h1 h2
 omega
theorem Moved.knots_iff (M : Motion g gB) (hd : ∀ b ∈ l, Sided b) (h : Moved gB l l') (x : Knot) : x ∈ holeK l' ↔ ∃ k ∈ holeK l, g k = x := by
 obtain ⟨k, rfl⟩ := M.surj x
 rw [h.knots M hd]
 constructor
 ·intro h; exact ⟨k, h, rfl⟩
 ·rintro ⟨k', hk', e⟩; rwa [← M.inj _ _ e]
theorem Moved.meshes (M : Motion g gB) (hd : ∀ b ∈ l, Sided b) (h : Moved gB l l') (c : Knot) : MeshAt l' (g c) ↔ MeshAt l c := by
 have hs : ∀ i, Sided (mshB c i) := fun i => by
  match i with
  | 0 => exact .inr rfl
  | 1 => exact .inl rfl
  | 2 => exact .inl rfl
  | _ + 3 => exact .inr rfl
 constructor
 ·intro hm i hi
  obtain ⟨j, hj, e⟩ := M.mesh' c i hi
  exact (h.mem M hd (hs i)).1 (by rw [e]; exact hm j hj)
 ·intro hm j hj
  obtain ⟨i, hi, e⟩ := M.mesh c j hj
  rw [← e]
  exact (h.mem M hd (hs i)).2 (hm i hi)
theorem Moved.deg (M : Motion g gB) (hd : ∀ b ∈ l, Sided b) (h : Moved gB l l') (hn : l.Nodup) (hn' : l'.Nodup) (k : Knot) : degN l' (g k) = degN l k := by
 rw [degN_eq, degN_eq, List.countP_eq_length_filter, List.countP_eq_length_filter]
 refine same_len (f := gB) (hn.filter _) (hn'.filter _) (fun a ha b hb => M.injB (hd a (List.mem_filter.1 ha).1) (hd b (List.mem_filter.1 hb).1)) fun x => ?_
 have hat : ∀ b, Sided b → (atB (g k) (gB b) = true ↔ atB k b = true) := fun b hb => by
  unfold atB
  simp only [Bool.or_eq_true, decide_eq_true_eq]
  rcases M.ends b hb with ⟨h1, h2⟩ | ⟨h1, h2⟩
  ·rw [← h1, ← h2]
   exact ⟨fun e => e.imp (M.inj _ _) (M.inj _ _), fun e => e.imp (congrArg g) (congrArg g)⟩
  ·rw [← h1, ← h2]
   exact ⟨fun e => (e.imp (M.inj _ _) (M.inj _ _)).symm, fun e => (e.imp (congrArg g) (congrArg g)).symm⟩
 rw [List.mem_filter, h]
 constructor
 ·rintro ⟨⟨b, hb, rfl⟩, ha⟩
  exact ⟨b, List.mem_filter.2 ⟨hb, (hat b (hd b hb)).1 ha⟩, rfl⟩
 ·rintro ⟨b, hb, rfl⟩
  obtain ⟨hb, ha⟩ := List.mem_filter.1 hb
  exact ⟨⟨b, hb, rfl⟩, (hat b (hd b hb)).2 ha⟩
theorem Moved.legs (M : Motion g gB) (hd : ∀ b ∈ l, Sided b) (h : Moved gB l l') (hn : l.Nodup) (hn' : l'.Nodup) (d : Nat) : legC l' (holeK l') d = legC l (holeK l) d := by
 unfold legC
 refine same_len (f := g) ((sortedK_nodup (holeK_sorted l)).filter _) ((sortedK_nodup (holeK_sorted l')).filter _) (fun a _ b _ e => M.inj a b e) fun x => ?_
 rw [List.mem_filter, h.knots_iff M hd]
 constructor
 ·rintro ⟨⟨k, hk, rfl⟩, e⟩
  rw [h.deg M hd hn hn'] at e
  exact ⟨k, List.mem_filter.2 ⟨hk, e⟩, rfl⟩
 ·rintro ⟨k, hk, rfl⟩
  obtain ⟨hk, e⟩ := List.mem_filter.1 hk
  exact ⟨⟨k, hk, rfl⟩, by rw [h.deg M hd hn hn']; exact e⟩
end
theorem shB_lt (d : Knot) {a b : Bar} : bltP (shB d a) (shB d b) ↔ bltP a b := by
 rw [bltP_iff, bltP_iff]; unfold shB; simp only; omega
theorem shift_sorted {l : List Bar} (hs : l.Pairwise bltP) (d : Knot) : (l.map (shB d)).Pairwise bltP := by
 rw [List.pairwise_map]; exact hs.imp fun h => (shB_lt d).2 h
def InS (x0 y0 : Int) (c n : Nat) (b : Bar) : Prop := (b.2.2 = 1 ∨ b.2.2 = -1) ∧ x0 ≤ b.1 ∧ b.1 ≤ x0 + 2 * c ∧ x0 ≤ b.1 + b.2.2 ∧ b.1 + b.2.2 ≤ x0 + 2 * c ∧ y0 ≤ b.2.1 ∧ b.2.1 < y0 + n ∧ (b.1 - x0 + (b.2.1 - y0)) % 2 = 0
theorem sdB_mem {x0 : Int} {c : Nat} {b d : Bar} : b ∈ sdB x0 c d ↔ b = d ∧ x0 ≤ d.1 + d.2.2 ∧ d.1 + d.2.2 ≤ x0 + 2 * c := by
 unfold sdB
 split
 ·rename_i h; simp [h]
 ·rename_i h
  constructor
  ·intro h1; cases h1
  ·rintro ⟨_, h1⟩; exact absurd h1 h
theorem shT_two (x0 : Int) (c : Nat) (x y : Int) : shT x0 c x y 2 = sdB x0 c (x, y, -1) ++ sdB x0 c (x, y, 1) := rfl
theorem shT_mem {x0 : Int} {c : Nat} {x y : Int} {b : Bar} : b ∈ shT x0 c x y 2 ↔ b.1 = x ∧ b.2.1 = y ∧ (b.2.2 = 1 ∨ b.2.2 = -1) ∧ x0 ≤ x + b.2.2 ∧ x + b.2.2 ≤ x0 + 2 * c := by
 obtain ⟨bx, bY, bs⟩ := b
 rw [shT_two, List.mem_append, sdB_mem, sdB_mem]
 simp only [Prod.mk.injEq]
 constructor
 ·rintro (⟨⟨rfl, rfl, rfl⟩, h⟩ | ⟨⟨rfl, rfl, rfl⟩, h⟩)
  ·exact ⟨rfl, rfl, .inr rfl, h⟩
  ·exact ⟨rfl, rfl, .inl rfl, h⟩
 ·rintro ⟨rfl, rfl, rfl | rfl, h⟩
  ·exact .inr ⟨⟨rfl, rfl, rfl⟩, h⟩
  ·exact .inl ⟨⟨rfl, rfl, rfl⟩, h⟩
theorem shI_mem {x0 : Int} {c : Nat} {y : Int} {n : Nat} {b : Bar} : ∀ i, b ∈ shI x0 c y n i ↔ ∃ j, j < i ∧ b ∈ shT x0 c (x0 + (n % 2 : Nat) + 2 * (j : Int)) y 2
 | 0 => by simp [shI]
 | i + 1 => by
  rw [shI, List.mem_append, shI_mem i]
  constructor
  ·rintro (⟨j, hj, h⟩ | h)
   ·exact ⟨j, by omega, h⟩
   ·exact ⟨i, by omega, h⟩
  ·rintro ⟨j, hj, h⟩
   by_cases e : j = i
   ·subst e; exact .inr h
   ·exact .inl ⟨j, by omega, h⟩
theorem row_mem {x0 : Int} {c : Nat} {y : Int} {n : Nat} {b : Bar} : b ∈ shI x0 c y n (c + 1 - n % 2) ↔ b.2.1 = y ∧ (b.2.2 = 1 ∨ b.2.2 = -1) ∧ x0 ≤ b.1 ∧ b.1 ≤ x0 + 2 * c ∧ x0 ≤ b.1 + b.2.2 ∧ b.1 + b.2.2 ≤ x0 + 2 * c ∧ (b.1 - x0 + n) % 2 = 0 := by
 obtain ⟨bx, bY, bs⟩ := b
 rw [shI_mem]
 simp only [shT_mem]
 constructor
 ·rintro ⟨j, hj, h1, h2, h3, h4, h5⟩
  refine ⟨h2, h3, ?_, ?_, ?_, ?_, ?_⟩ <;> omega
 ·rintro ⟨h2, h3, h4, h5, h6, h7, h8⟩
  obtain ⟨j, hj⟩ : ∃ j : Nat, bx - x0 - (n % 2 : Nat) = 2 * (j : Int) := ⟨((bx - x0 - (n % 2 : Nat)) / 2).toNat, by omega⟩
  refine ⟨j, ?_, ?_, h2, h3, ?_, ?_⟩ <;> omega
theorem shN_mem {x0 y0 : Int} {c : Nat} {b : Bar} : ∀ n, b ∈ shN x0 y0 c n ↔ InS x0 y0 c n b
 | 0 => by
  unfold InS
  simp only [shN, List.not_mem_nil, false_iff]
  omega
 | n + 1 => by
  rw [shN, List.mem_append, shN_mem n, row_mem]
  unfold InS
  constructor
  ·rintro (⟨h1, h2, h3, h4, h5, h6, h7, h8⟩ | ⟨h1, h2, h3, h4, h5, h6, h7⟩)
   ·exact ⟨h1, h2, h3, h4, h5, h6, by omega, h8⟩
   ·exact ⟨h2, h3, h4, h5, h6, by omega, by omega, by omega⟩
  ·rintro ⟨h1, h2, h3, h4, h5, h6, h7, h8⟩
   by_cases e : b.2.1 < y0 + (n : Int)
   ·exact .inl ⟨h1, h2, h3, h4, h5, h6, e, h8⟩
   ·exact .inr ⟨by omega, h1, h2, h3, h4, h5, by omega⟩
theorem sdB_sorted (x0 : Int) (c : Nat) (d : Bar) : (sdB x0 c d).Pairwise bltP := by unfold sdB; split <;> simp
theorem shT_sorted (x0 : Int) (c : Nat) (x y : Int) : (shT x0 c x y 2).Pairwise bltP := by
 rw [shT_two]
 refine List.pairwise_append.2 ⟨sdB_sorted _ _ _, sdB_sorted _ _ _, fun a ha b hb => ?_⟩
 rw [(sdB_mem.1 ha).1, (sdB_mem.1 hb).1, bltP_iff]
 simp
theorem shI_sorted (x0 : Int) (c : Nat) (y : Int) (n : Nat) : ∀ i, (shI x0 c y n i).Pairwise bltP
 | 0 => by simp [shI]
 | i + 1 => by
  rw [shI]
  refine List.pairwise_append.2 ⟨shI_sorted x0 c y n i, shT_sorted _ _ _ _, fun a ha b hb => ?_⟩
  obtain ⟨j, hj, h1⟩ := (shI_mem i).1 ha
  obtain ⟨a1, a2, _⟩ := shT_mem.1 h1
  obtain ⟨b1, b2, _⟩ := shT_mem.1 hb
  rw [bltP_iff]
  omega
theorem shN_sorted (x0 y0 : Int) (c : Nat) : ∀ n, (shN x0 y0 c n).Pairwise bltP
 | 0 => by simp [shN]
 | n + 1 => by
  rw [shN]
  refine List.pairwise_append.2 ⟨shN_sorted x0 y0 c n, shI_sorted _ _ _ _ _, fun a ha b hb => ?_⟩
  obtain ⟨_, _, _, _, _, _, h, _⟩ := (shN_mem n).1 ha
  have := (row_mem.1 hb).1
  rw [bltP_iff]
  omega
theorem sdB_yes {x0 : Int} {c : Nat} {d : Bar} (h : x0 ≤ d.1 + d.2.2 ∧ d.1 + d.2.2 ≤ x0 + 2 * c) : (sdB x0 c d).length = 1 := by unfold sdB; rw [if_pos h]; rfl
theorem sdB_no {x0 : Int} {c : Nat} {d : Bar} (h : ¬ (x0 ≤ d.1 + d.2.2 ∧ d.1 + d.2.2 ≤ x0 + 2 * c)) : (sdB x0 c d).length = 0 := by unfold sdB; rw [if_neg h]; rfl
theorem odd_len (x0 : Int) (c : Nat) (y : Int) {n : Nat} (hn : n % 2 = 1) : ∀ i, i ≤ c → (shI x0 c y n i).length = 2 * i
 | 0, _ => rfl
 | i + 1, h => by
  rw [shI, List.length_append, odd_len x0 c y hn i (by omega), shT_two, List.length_append, hn, sdB_yes (by simp only; omega), sdB_yes (by simp only; omega)]
  omega
theorem even_len (x0 : Int) (c : Nat) (y : Int) {n : Nat} (hn : n % 2 = 0) : ∀ i, i + 1 ≤ c → (shI x0 c y n (i + 1)).length = 2 * i + 1
 | 0, h => by
  rw [shI, List.length_append, shI, shT_two, List.length_append, hn, sdB_no (by simp only; omega), sdB_yes (by simp only; omega)]
  rfl
 | i + 1, h => by
  rw [shI, List.length_append, even_len x0 c y hn i (by omega), shT_two, List.length_append, hn, sdB_yes (by simp only; omega), sdB_yes (by simp only; omega)]
  omega
theorem row_len (x0 : Int) {c : Nat} (hc : 1 ≤ c) (y : Int) (n : Nat) : (shI x0 c y n (c + 1 - n % 2)).length = 2 * c := by
 rcases Nat.mod_two_eq_zero_or_one n with h | h
 ·obtain ⟨d, rfl⟩ : ∃ d, c = d + 1 := ⟨c - 1, by omega⟩
  rw [h, Nat.sub_zero, shI, List.length_append, even_len x0 (d + 1) y h d (Nat.le_refl _), shT_two, List.length_append, h, sdB_yes (by simp only; omega), sdB_no (by simp only; omega)]
  omega
 ·rw [h, Nat.add_sub_cancel, odd_len x0 c y h c (Nat.le_refl _)]
theorem sheet_len (x0 y0 : Int) {c : Nat} (hc : 1 ≤ c) : ∀ n, (shN x0 y0 c n).length = 2 * c * n
 | 0 => by simp [shN]
 | n + 1 => by rw [shN, List.length_append, sheet_len x0 y0 hc n, row_len x0 hc, Nat.mul_succ]
def rowK (x y : Int) (i : Nat) : List Knot := (List.range i).map fun (j : Nat) => (x + 2 * (j : Int), y)
theorem rowK_len (x y : Int) (i : Nat) : (rowK x y i).length = i := by simp [rowK]
theorem rowK_mem {x y : Int} {i : Nat} {k : Knot} : k ∈ rowK x y i ↔ k.2 = y ∧ x ≤ k.1 ∧ k.1 < x + 2 * i ∧ (k.1 - x) % 2 = 0 := by
 obtain ⟨a, b⟩ := k
 unfold rowK
 simp only [List.mem_map, List.mem_range, Prod.mk.injEq]
 constructor
 ·rintro ⟨j, hj, rfl, rfl⟩; omega
 ·rintro ⟨rfl, h1, h2, h3⟩
  exact ⟨((a - x) / 2).toNat, by omega, by omega, rfl⟩
theorem rowK_nodup (x y : Int) (i : Nat) : (rowK x y i).Nodup := by
 unfold rowK
 refine nodup_map List.nodup_range fun a _ b _ h => ?_
 simp only [Prod.mk.injEq] at h
 omega
theorem len_same {α : Type} [DecidableEq α] {A B : List α} (hA : A.Nodup) (hB : B.Nodup) (h : ∀ x, x ∈ A ↔ x ∈ B) : A.length = B.length :=
 Nat.le_antisymm (length_le_of_sub hA fun x hx => (h x).1 hx) (length_le_of_sub hB fun x hx => (h x).2 hx)
theorem inS_mk {x0 y0 : Int} {c n : Nat} {x y s : Int} (hs : s = 1 ∨ s = -1) (h : (x0 ≤ x ∧ x ≤ x0 + 2 * c) ∧ (x0 ≤ x + s ∧ x + s ≤ x0 + 2 * c) ∧ (y0 ≤ y ∧ y < y0 + n) ∧ (x - x0 + (y - y0)) % 2 = 0) : InS x0 y0 c n (x, y, s) := ⟨hs, h.1.1, h.1.2, h.2.1.1, h.2.1.2, h.2.2.1.1, h.2.2.1.2, h.2.2.2⟩
theorem sheet_deg {x0 y0 : Int} {c r : Nat} {x y : Int} (hx : x0 < x ∧ x < x0 + 2 * c) (hy : y0 < y ∧ y < y0 + r) (hp : (x - x0 + (y - y0)) % 2 = 0) : degN (shN x0 y0 c r) (x, y) = 4 := by
 have hn := sortedB_nodup (shN_sorted x0 y0 c r)
 have hsd : ∀ b ∈ shN x0 y0 c r, Sided b := fun b hb => ((shN_mem r).1 hb).1
 refine Nat.le_antisymm (degN_le hn hsd _) ?_
 rw [degN_eq, List.countP_eq_length_filter]
 have := length_le_of_sub (l := [(x - 1, y - 1, 1), (x + 1, y - 1, -1), (x, y, -1), (x, y, 1)]) (D := (shN x0 y0 c r).filter (atB (x, y))) (by simp; omega) (fun b hb => by
  rw [List.mem_filter, shN_mem]
  simp only [List.mem_cons, List.not_mem_nil, or_false] at hb
  unfold atB
  rcases hb with rfl | rfl | rfl | rfl <;> refine ⟨inS_mk (by simp) (by omega), ?_⟩ <;> simp [lowK, uppK] <;> omega)
 simpa using this
def NearL (n : Int) (l : List Bar) : Prop := ∀ b ∈ l, (-n ≤ b.1 ∧ b.1 ≤ n) ∧ (-n ≤ b.2.1 ∧ b.2.1 ≤ n) ∧ (b.2.2 = 1 ∨ b.2.2 = -1) ∧ (b.1 + b.2.1) % 2 = 0
theorem farB_no {n : Int} (h : -100000 ≤ n ∧ n ≤ 100000) : farB n = false := by
 unfold farB
 rw [decide_eq_false (by omega), decide_eq_false (by omega)]
 rfl
theorem knotE_yes {x y : Int} (hx : -100000 ≤ x ∧ x ≤ 100000) (hy : -100000 ≤ y ∧ y ≤ 100000) (hp : (x + y) % 2 = 0) : knotE x y = 0 := by
 unfold knotE
 rw [farB_no hx, farB_no hy, if_neg (by simp), if_pos hp]
theorem NearL.bar {n : Int} {l : List Bar} (h : NearL n l) (hn : n ≤ 99000) : ∀ b ∈ l, barE b.1 b.2.1 b.2.2 = 0 := fun b hb => by
 obtain ⟨h1, h2, h3, h4⟩ := h b hb
 unfold barE
 rw [if_neg (by rw [knotE_yes (by omega) (by omega) h4]; simp), if_neg (by omega)]
 exact knotE_yes (by omega) (by omega) (by omega)
theorem NearL.net {n : Int} {l : List Bar} (h : NearL n l) (hn : n ≤ 99000) (hs : l.Pairwise bltP) (hl : l.length ≤ 4096) : netE l = 0 := netE_zero (h.bar hn) hs hl
theorem NearL.mono {n m : Int} {l : List Bar} (h : NearL n l) (hn : n ≤ m) : NearL m l := fun b hb => by
 obtain ⟨h1, h2, h3, h4⟩ := h b hb
 exact ⟨by omega, by omega, h3, h4⟩
theorem NearL.mir {n : Int} {l : List Bar} (h : NearL n l) : NearL n (mirN l) := fun b hb => by
 obtain ⟨q1, q2, q3, q4⟩ := h _ ((mirN_mem l b).1 hb)
 unfold mirB at q1 q2 q3 q4
 simp only at q1 q2 q3 q4
 exact ⟨by omega, q2, by omega, by omega⟩
theorem NearL.turn {n : Int} {l : List Bar} (h : NearL n l) : ∀ k : Nat, NearL (n + k) (turnN k l)
 | 0 => by
  have e : turnN 0 l = l := rfl
  rw [e]; exact h.mono (by omega)
 | k + 1 => fun x hx => by
  obtain ⟨b, hb, rfl⟩ := (turnN_mem l x k).1 hx
  obtain ⟨q1, q2, q3, q4⟩ := h.turn k b hb
  rw [turnB_of q3]
  split
  ·simp only; exact ⟨by omega, by omega, by simp, by omega⟩
  ·simp only; exact ⟨by omega, by omega, by simp, by omega⟩
theorem NearL.frm {n : Int} {l : List Bar} (h : NearL n l) {k : Nat} (hk : k < 8) : NearL (n + 8) (frm l k) := by
 unfold Go.Proofs.YtkkefahobjlagaaGreatDoor.frm
 split
 ·exact (h.turn k).mono (by omega)
 ·exact (h.mir.turn (k - 4)).mono (by omega)
theorem NearL.nrm {n : Int} {l : List Bar} (h : NearL n l) (hn : n ≤ 40000) : allIn (nrm l) = true := by
 unfold allIn
 rw [List.all_eq_true]
 intro x hx
 cases l with
 | nil => simp [Go.Proofs.YtkkefahobjlagaaGreatDoor.nrm] at hx
 | cons a r =>
  obtain ⟨p1, p2, p3, p4⟩ := h a (List.mem_cons_self ..)
  unfold Go.Proofs.YtkkefahobjlagaaGreatDoor.nrm at hx
  obtain ⟨c, hc, rfl⟩ := List.mem_map.1 hx
  obtain ⟨q1, q2, q3, q4⟩ := h c hc
  unfold inB shB hdK
  simp only
  rw [farB_no (by omega), farB_no (by omega), farB_no (by omega), farB_no (by omega)]
  rfl
structure Inv (l l' : List Bar) : Prop where
 len : l'.length = l.length
 knots : (holeK l').length = (holeK l).length
 meshes : (meshL l' l').length = (meshL l l).length
 parts : (partsL l').length = (partsL l).length
 legs : ∀ d, legC l' (holeK l') d = legC l (holeK l) d
 form : bst l' 8 = bst l 8
theorem Inv.trans {a b c : List Bar} (h : Inv a b) (h' : Inv b c) : Inv a c := ⟨h'.len.trans h.len, h'.knots.trans h.knots, h'.meshes.trans h.meshes, h'.parts.trans h.parts, fun d => (h'.legs d).trans (h.legs d), h'.form.trans h.form⟩
theorem Inv.refl (l : List Bar) : Inv l l := ⟨rfl, rfl, rfl, rfl, fun _ => rfl, rfl⟩
structure SheetIn (x y : Int) (c r : Nat) : Prop where
 c1 : 1 ≤ c ∧ c ≤ 100
 r1 : 1 ≤ r ∧ r ≤ 100
 x1 : -100000 ≤ x ∧ x + 2 * c ≤ 100000
 y1 : -100000 ≤ y ∧ y + r ≤ 100000
 p1 : (x + y) % 2 = 0
 l1 : 2 * c * r ≤ 4096
variable {x y : Int} {c r : Nat}
theorem barE_yes {x y s : Int} (h1 : -100000 ≤ x ∧ x ≤ 100000) (h2 : -100000 ≤ y ∧ y + 1 ≤ 100000) (h3 : -100000 ≤ x + s ∧ x + s ≤ 100000) (hs : s = 1 ∨ s = -1) (hp : (x + y) % 2 = 0) : barE x y s = 0 := by
 unfold barE
 rw [if_neg (by rw [knotE_yes h1 (by omega) hp]; simp), if_neg (by omega)]
 exact knotE_yes h3 (by omega) (by omega)
theorem SheetIn.knot (h : SheetIn x y c r) : knotE x y = 0 := knotE_yes (by have := h.x1; omega) (by have := h.y1; omega) h.p1
theorem SheetIn.net (h : SheetIn x y c r) : netE (shN x y c r) = 0 := netE_zero (fun b hb => by
    have := (shN_mem r).1 hb
    unfold InS at this
    obtain ⟨h1, h2, h3, h4, h5, h6, h7, h8⟩ := this
    have e1 := h.x1
    have e2 := h.y1
    have e3 := h.p1
    exact barE_yes (by omega) (by omega) (by omega) h1 (by omega)) (shN_sorted _ _ _ _) (by rw [sheet_len _ _ h.c1.1]; exact h.l1)
theorem SheetIn.deg (h : SheetIn x y c r) {a b : Int} (ha : x < a ∧ a < x + 2 * c) (hb : y < b ∧ b < y + r) (hp : (a + b) % 2 = 0) : knotE a b = 0 ∧ degN (shN x y c r) (a, b) = 4 := by
 have e1 := h.x1
 have e2 := h.y1
 have e3 := h.p1
 exact ⟨knotE_yes (by omega) (by omega) hp, sheet_deg ha hb (by omega)⟩
theorem SheetIn.turned (h : SheetIn x y c r) : netE (turnN 2 (shN x y c r)) = 0 := by
 have hs := shN_sorted x y c r
 have hsd : ∀ b ∈ shN x y c r, Sided b := fun b hb => ((shN_mem r).1 hb).1
 refine netE_zero (fun b hb => ?_) (turnN_sorted hs hsd 2) (by rw [turnN_len, sheet_len _ _ h.c1.1]; exact h.l1)
 obtain ⟨d, hd, rfl⟩ := (turnN_mem _ _ _).1 hb
 obtain ⟨e, he, rfl⟩ := (turnN_mem _ _ _).1 hd
 have he' : e ∈ shN x y c r := he
 rw [turnB_two (hsd e he')]
 have := (shN_mem r).1 he'
 unfold InS at this
 obtain ⟨h1, h2, h3, h4, h5, h6, h7, h8⟩ := this
 have e1 := h.x1
 have e2 := h.y1
 have e3 := h.p1
 exact barE_yes (by simp only; omega) (by simp only; omega) (by simp only; omega) h1 (by simp only; omega)
end Go.Proofs.YtkkefahobjlagaaGreatDoor

/- Bars shifted, of the program, walked. Conditions: bars within bounds. -/
import Derived.Test.YthkjgcldolnjaaaGreatDoorL07
import Derived.Test.YthkjgcldolnjaaaGreatDoorL08
import Derived.Test.YthkjgcldolnjaaaGreatDoorL26
import Derived.Lib.SliceRun
import Derived.Deep.CutRange
import Derived.Test.YthkjgcldolnjaaaGreatDoorL13
import Derived.Test.YthkjgcldolnjaaaGreatDoorL27
import Derived.Test.YthkjgcldolnjaaaGreatDoorL17
import Derived.Test.YthkjgcldolnjaaaGreatDoorL39
namespace Go.Proofs.YthkjgcldolnjaaaGreatDoor
open Go.RowKit Go.ChangeMaps
set_option maxHeartbeats 4000000
set_option maxRecDepth 100000

end Go.Proofs.YthkjgcldolnjaaaGreatDoor

/- Mirror, Turn and Shift of the program, walked. Conditions: the slices read as lists. -/
namespace Go.Proofs.YthkjgcldolnjaaaGreatDoor
open Go.RowKit Go.ChangeMaps
set_option maxHeartbeats 4000000
set_option maxRecDepth 100000

/-- both ends of a bar are within their range, and its side is one of both -/
structure EndsIn (b : Bar) : Prop where
  x : -100000 ≤ b.1 ∧ b.1 ≤ 100000
  y : -100000 ≤ b.2.1 ∧ b.2.1 ≤ 100000
  x2 : -100000 ≤ b.1 + b.2.2 ∧ b.1 + b.2.2 ≤ 100000
  y2 : -100000 ≤ b.2.1 + 1 ∧ b.2.1 + 1 ≤ 100000
  s : b.2.2 = 1 ∨ b.2.2 = -1
theorem EndsIn.ok {b : Bar} (h : EndsIn b) : BarOk b := ⟨by have := h.x; omega, by have := h.y; omega, h.s⟩
theorem EndsIn.turn {b : Bar} (h : EndsIn b) : EndsIn (turnB b) := by
  obtain ⟨x, y, s⟩ := b
  obtain ⟨h1, h2, h3, h4, h5⟩ := h
  simp only at h1 h2 h3 h4 h5
  rcases h5 with rfl | rfl
  · have e : turnB (x, y, 1) = (-y, x, -1) := by
      unfold turnB btwB
      simp only
      rw [if_neg (by omega)]
      simp only [Prod.mk.injEq, true_and]
      omega
    rw [e]
    exact ⟨by simp only; omega, by simp only; omega, by simp only; omega, by simp only; omega, .inr rfl⟩
  · have e : turnB (x, y, -1) = (-(y + 1), x - 1, 1) := by
      unfold turnB btwB
      simp only
      rw [if_pos (by omega)]
      have e1 : x + -1 = x - 1 := by omega
      have e2 : -y - -(y + 1) = 1 := by omega
      rw [e1, e2]
    rw [e]
    exact ⟨by simp only; omega, by simp only; omega, by simp only; omega, by simp only; omega, .inl rfl⟩
theorem EndsIn.mir {b : Bar} (h : EndsIn b) : EndsIn (mirB b) := by
  obtain ⟨x, y, s⟩ := b
  obtain ⟨h1, h2, h3, h4, h5⟩ := h
  unfold mirB
  simp only at h1 h2 h3 h4 h5 ⊢
  constructor <;> simp only <;> omega
def mirK (k : Knot) : Knot := (-k.1, k.2)
def turnK (k : Knot) : Knot := (-k.2, k.1)
theorem mvB_mir {b : Bar} : mvB mirK b = mirB b := by
  obtain ⟨x, y, s⟩ := b
  unfold mvB mirK mirB btwB lowK uppK
  simp only
  rw [if_neg (by omega)]
  simp only [Prod.mk.injEq, true_and]
  omega
def mirN (l : List Bar) : List Bar := srtB (l.map (mvB mirK))
def turnN : Nat → List Bar → List Bar
  | 0, l => l
  | n + 1, l => srtB ((turnN n l).map (mvB turnK))
theorem turnN_len (l : List Bar) : ∀ n, (turnN n l).length = l.length
  | 0 => rfl
  | n + 1 => by
    unfold turnN
    rw [srtB_length, List.length_map, turnN_len l n]
end Go.Proofs.YthkjgcldolnjaaaGreatDoor

/- Shift, and two nets compared, of the program, walked. Conditions: the slices read as lists. -/
namespace Go.Proofs.YthkjgcldolnjaaaGreatDoor
open Go.RowKit Go.ChangeMaps
set_option maxHeartbeats 4000000
set_option maxRecDepth 100000

/-- two lists of bars, by their first difference, then by their length -/
def cmpL : List Bar → List Bar → Int
  | [], [] => 0
  | [], _ :: _ => -1
  | _ :: _, [] => 1
  | a :: l, b :: r => if barCmp a.1 a.2.1 a.2.2 b.1 b.2.1 b.2.2 ≠ 0 then barCmp a.1 a.2.1 a.2.2 b.1 b.2.1 b.2.2 else cmpL l r
end Go.Proofs.YthkjgcldolnjaaaGreatDoor

/- The canonical form of a net, of the program, walked. Conditions: the slices read as lists. -/
namespace Go.Proofs.YthkjgcldolnjaaaGreatDoor
open Go.RowKit Go.ChangeMaps
set_option maxHeartbeats 4000000
set_option maxRecDepth 100000

/-- the forms of a net, one by one: turned by quarters, then its mirror turned -/
def frm (l : List Bar) (k : Nat) : List Bar := if k < 4 then turnN k l else turnN (k - 4) (mirN l)
def hdK : List Bar → Knot
  | [] => (0, 0)
  | b :: _ => (-b.1, -b.2.1)
/-- a net shifted so that its first bar begins at the origin -/
def nrm (f : List Bar) : List Bar := f.map (shB (hdK f))
def bst (l : List Bar) : Nat → List Bar
  | 0 => []
  | k + 1 => if k = 0 ∨ cmpL (nrm (frm l k)) (bst l k) < 0 then nrm (frm l k) else bst l k
def allN (l : List Bar) : Nat → Bool
  | 0 => true
  | k + 1 => allN l k && allIn (nrm (frm l k))
end Go.Proofs.YthkjgcldolnjaaaGreatDoor

/- Two nets merged, plain. Conditions: the nets are in their order. -/
namespace Go.Proofs.YthkjgcldolnjaaaGreatDoor
open Go.RowKit Go.ChangeMaps
set_option maxHeartbeats 4000000
set_option maxRecDepth 100000

/-- what is kept, as a test on the two lists -/
def kept (K : Bool → Bool → Bool) (a b : List Bar) (x : Bar) : Prop := (x ∈ a ∨ x ∈ b) ∧ K (decide (x ∈ a)) (decide (x ∈ b)) = true
end Go.Proofs.YthkjgcldolnjaaaGreatDoor

/- Nets turned and mirrored, and the canonical form, plain. Conditions: the net is in its order. -/
namespace Go.Proofs.YthkjgcldolnjaaaGreatDoor
open Go.RowKit Go.ChangeMaps
set_option maxHeartbeats 4000000
set_option maxRecDepth 100000

theorem mirB_mirB (b : Bar) : mirB (mirB b) = b := by obtain ⟨x, y, s⟩ := b; simp [mirB]
theorem turn_up (x y : Int) : turnB (x, y, 1) = (-y, x, -1) := by
  unfold turnB btwB; simp only; rw [if_neg (by omega)]; simp only [Prod.mk.injEq, true_and] <;> omega
theorem turn_dn (x y : Int) : turnB (x, y, -1) = (-y - 1, x - 1, 1) := by
  unfold turnB btwB; simp only; rw [if_pos (by omega)]; simp only [Prod.mk.injEq] <;> omega
theorem turnB_of {b : Bar} (h : Sided b) : turnB b = if b.2.2 = 1 then (-b.2.1, b.1, -1) else (-b.2.1 - 1, b.1 - 1, 1) := by
  obtain ⟨x, y, s⟩ := b
  unfold Sided at h
  simp only at h
  obtain rfl | rfl := h
  · rw [turn_up]; rfl
  · rw [turn_dn]; rfl
theorem turnB_sided {b : Bar} (h : Sided b) : Sided (turnB b) := by
  rw [turnB_of h]; unfold Sided; split <;> simp
theorem turnB_two {b : Bar} (h : Sided b) : turnB (turnB b) = (-b.1 - b.2.2, -b.2.1 - 1, b.2.2) := by
  obtain ⟨x, y, s⟩ := b
  unfold Sided at h
  simp only at h
  obtain rfl | rfl := h
  · simp only [turn_up, turn_dn]
  · simp only [turn_up, turn_dn, Prod.mk.injEq, and_true]; omega
theorem turnB_four {b : Bar} (h : Sided b) : turnB (turnB (turnB (turnB b))) = b := by
  have h2 := turnB_sided (turnB_sided h)
  rw [turnB_two h2, turnB_two h]
  obtain ⟨x, y, s⟩ := b
  simp only [Prod.mk.injEq]
  exact ⟨by omega, by omega, trivial⟩
theorem turnB_inj {a b : Bar} (ha : Sided a) (hb : Sided b) (h : turnB a = turnB b) : a = b := by
  rw [← turnB_four ha, h, turnB_four hb]
theorem nodup_map {α β : Type} {f : α → β} {l : List α} (hn : l.Nodup) (hf : ∀ a ∈ l, ∀ b ∈ l, f a = f b → a = b) : (l.map f).Nodup := by
  rw [List.nodup_iff_pairwise_ne, List.pairwise_map]
  exact hn.imp_of_mem fun ha hb hne e => hne (hf _ ha _ hb e)
theorem mirN_eq (l : List Bar) : mirN l = srtB (l.map mirB) := by
  unfold mirN
  congr 1
  exact List.map_congr_left fun b _ => mvB_mir
theorem turnN_eq (n : Nat) (l : List Bar) : turnN (n + 1) l = srtB ((turnN n l).map turnB) := rfl
theorem mirN_mem (l : List Bar) (b : Bar) : b ∈ mirN l ↔ mirB b ∈ l := by
  rw [mirN_eq, srtB_mem, List.mem_map]
  constructor
  · rintro ⟨c, hc, rfl⟩; rwa [mirB_mirB]
  · intro h; exact ⟨_, h, mirB_mirB b⟩
theorem turnN_sided {l : List Bar} (h : ∀ b ∈ l, Sided b) : ∀ n, ∀ b ∈ turnN n l, Sided b
  | 0 => h
  | n + 1 => fun b hb => by
    rw [turnN_eq, srtB_mem, List.mem_map] at hb
    obtain ⟨c, hc, rfl⟩ := hb
    exact turnB_sided (turnN_sided h n c hc)
theorem turnN_nodup {l : List Bar} (hn : l.Nodup) (h : ∀ b ∈ l, Sided b) : ∀ n, (turnN n l).Nodup
  | 0 => hn
  | n + 1 => by
    rw [turnN_eq]
    exact sortedB_nodup (srtB_sorted (nodup_map (turnN_nodup hn h n) fun a ha b hb => turnB_inj (turnN_sided h n a ha) (turnN_sided h n b hb)))
theorem turnN_sorted {l : List Bar} (hs : l.Pairwise bltP) (h : ∀ b ∈ l, Sided b) : ∀ n, (turnN n l).Pairwise bltP
  | 0 => hs
  | n + 1 => by
    rw [turnN_eq]
    exact srtB_sorted (nodup_map (turnN_nodup (sortedB_nodup hs) h n) fun a ha b hb => turnB_inj (turnN_sided h n a ha) (turnN_sided h n b hb))
theorem turnN_mem (l : List Bar) (x : Bar) (n : Nat) : x ∈ turnN (n + 1) l ↔ ∃ b ∈ turnN n l, turnB b = x := by
  rw [turnN_eq, srtB_mem, List.mem_map]
/-! ## the canonical form, of the reference -/
end Go.Proofs.YthkjgcldolnjaaaGreatDoor

/- The parts of a net, plain: program and reference. Conditions: the net is in its order. -/
namespace Go.Proofs.YthkjgcldolnjaaaGreatDoor
open Go.RowKit Go.ChangeMaps
set_option maxHeartbeats 4000000
set_option maxRecDepth 100000

/-- two bars have a common end -/
def Tch (a b : Bar) : Prop := lowK a = lowK b ∨ lowK a = uppK b ∨ uppK a = lowK b ∨ uppK a = uppK b
instance (a b : Bar) : Decidable (Tch a b) := inferInstanceAs (Decidable (_ ∨ _))
theorem Tch.symm {a b : Bar} (h : Tch a b) : Tch b a := by
  unfold Tch at *
  rcases h with h | h | h | h
  · exact .inl h.symm
  · exact .inr (.inr (.inl h.symm))
  · exact .inr (.inl h.symm)
  · exact .inr (.inr (.inr h.symm))
/-- the bars that are connected with a bar, through bars of a list -/
inductive Conn (l : List Bar) (a : Bar) : Bar → Prop
  | refl : Conn l a a
  | step {b c : Bar} : Conn l a b → c ∈ l → Tch b c → Conn l a c
theorem Conn.mem {l : List Bar} {a b : Bar} (h : Conn l a b) (ha : a ∈ l) : b ∈ l := by
  cases h with
  | refl => exact ha
  | step _ h _ => exact h
theorem Conn.trans {l : List Bar} {a b c : Bar} (h : Conn l a b) (h' : Conn l b c) : Conn l a c := by
  induction h' with
  | refl => exact h
  | step _ hm ht ih => exact ih.step hm ht
theorem Conn.symm {l : List Bar} {a b : Bar} (h : Conn l a b) (ha : a ∈ l) : Conn l b a := by
  induction h with
  | refl => exact .refl
  | step hab hm ht ih => exact (Conn.step .refl (hab.mem ha) ht.symm).trans ih
/-! ## a list that is gone through while it grows -/
/-! ## the parts -/
noncomputable instance (l : List Bar) (a x : Bar) : Decidable (Conn l a x) := Classical.propDecidable _
/-! ## the parts of the reference -/
end Go.Proofs.YthkjgcldolnjaaaGreatDoor

/- Parts and labels of knots, plain. Conditions: none. -/
namespace Go.Proofs.YthkjgcldolnjaaaGreatDoor
open Go.RowKit Go.ChangeMaps
set_option maxHeartbeats 4000000
set_option maxRecDepth 100000

/-- a bar leads from one knot to the other -/
def Leads (b : Bar) (u v : Knot) : Prop := u = lowK b ∧ v = uppK b ∨ u = uppK b ∧ v = lowK b
theorem Leads.symm {b : Bar} {u v : Knot} (h : Leads b u v) : Leads b v u := by
  rcases h with ⟨h1, h2⟩ | ⟨h1, h2⟩
  · exact .inr ⟨h2, h1⟩
  · exact .inl ⟨h2, h1⟩
/-- the knots that are connected with a knot -/
inductive KC (l : List Bar) (u : Knot) : Knot → Prop
  | refl : KC l u u
  | step {v w : Knot} {b : Bar} : KC l u v → b ∈ l → Leads b v w → KC l u w
theorem KC.trans {l : List Bar} {u v w : Knot} (h : KC l u v) (h' : KC l v w) : KC l u w := by
  induction h' with
  | refl => exact h
  | step _ hm ht ih => exact ih.step hm ht
theorem KC.symm {l : List Bar} {u v : Knot} (h : KC l u v) : KC l v u := by
  induction h with
  | refl => exact .refl
  | step _ hm ht ih => exact (KC.step .refl hm ht.symm).trans ih
theorem KC.mono {l l' : List Bar} (hs : ∀ b ∈ l, b ∈ l') {u v : Knot} (h : KC l u v) : KC l' u v := by
  induction h with
  | refl => exact .refl
  | step _ hm ht ih => exact ih.step (hs _ hm) ht
theorem KC.bar {l : List Bar} {b : Bar} (h : b ∈ l) : KC l (lowK b) (uppK b) := KC.step .refl h (.inl ⟨rfl, rfl⟩)
theorem KC.nil_ {u v : Knot} (h : KC [] u v) : u = v := by
  induction h with
  | refl => rfl
  | step _ hm _ _ => simp at hm
theorem KC.ends {l : List Bar} {u v : Knot} (h : KC l u v) (hne : u ≠ v) : v ∈ holeK l := by
  cases h with
  | refl => exact absurd rfl hne
  | step _ hm ht =>
    rename_i b _
    refine (holeIn_mem _ l []).2 (.inr ⟨b, hm, ?_⟩)
    rcases ht with ⟨_, h⟩ | ⟨_, h⟩
    · exact .inr h
    · exact .inl h
/-- a labelling tells which knots are connected -/
def Lab (l : List Bar) (f : Knot → Knot) : Prop := ∀ u v, f u = f v ↔ KC l u v
theorem Lab.nil_ : Lab [] id := fun u v => ⟨fun h => by cases h; exact .refl, fun h => h.nil_⟩
theorem Lab.congr {l l' : List Bar} {f : Knot → Knot} (h : Lab l f) (hs : ∀ b, b ∈ l ↔ b ∈ l') : Lab l' f := fun u v =>
  (h u v).trans ⟨fun h => h.mono fun b hb => (hs b).1 hb, fun h => h.mono fun b hb => (hs b).2 hb⟩
/-- how many labels a list has -/
def nL {α : Type} (f : α → Knot) : List α → Nat
  | [] => 0
  | w :: W => nL f W + if f w ∈ W.map f then 0 else 1
/-! ## parts and labels -/
theorem holeK_ends (l : List Bar) (k : Knot) : k ∈ holeK l ↔ ∃ b ∈ l, k = lowK b ∨ k = uppK b := by
  unfold holeK; rw [holeIn_mem]; simp
end Go.Proofs.YthkjgcldolnjaaaGreatDoor

/- Sets of bars, plain. Conditions: the nets are in their order. -/
namespace Go.Proofs.YthkjgcldolnjaaaGreatDoor
open Go.RowKit Go.ChangeMaps
set_option maxHeartbeats 4000000
set_option maxRecDepth 100000

theorem netGo_zero : ∀ (l : List Bar) (p : Option Bar), (∀ b ∈ l, barE b.1 b.2.1 b.2.2 = 0) → l.Pairwise bltP → (∀ q, p = some q → ∀ b ∈ l, bltP q b) → netGo p l = 0
  | [], p, _, _, _ => by cases p <;> rfl
  | b :: r, p, h1, h2, h3 => by
    rw [netGo, if_neg (by have := h1 b (by simp); omega)]
    have hr : netGo (some b) r = 0 := netGo_zero r (some b) (fun c hc => h1 c (by simp [hc])) (List.pairwise_cons.1 h2).2 (fun q hq c hc => by
      obtain rfl : b = q := by simpa using hq
      exact (List.pairwise_cons.1 h2).1 c hc)
    rw [hr]
    cases p with
    | none => rfl
    | some q =>
      have : barLt q.1 q.2.1 q.2.2 b.1 b.2.1 b.2.2 = true := h3 q rfl b (by simp)
      simp [this]
theorem netE_zero {l : List Bar} (h1 : ∀ b ∈ l, barE b.1 b.2.1 b.2.2 = 0) (h2 : l.Pairwise bltP) (h3 : l.length ≤ 4096) : netE l = 0 := by
  unfold netE
  rw [if_neg (by omega)]
  exact netGo_zero l none h1 h2 (fun q h => by cases h)
/-! ## sets of bars -/
end Go.Proofs.YthkjgcldolnjaaaGreatDoor

/- How many bars a strip has; an outline, strip by strip, plain. Conditions: none. -/
namespace Go.Proofs.YthkjgcldolnjaaaGreatDoor
open Go.RowKit Go.ChangeMaps
set_option maxHeartbeats 4000000
set_option maxRecDepth 100000

/-! # How many bars a strip has -/
structure SOk (s : Strp) (y : Int) : Prop where
  left : s.2.2.1 = s.1 ∨ (s.2.2.1 = s.1 - 1 ∨ s.2.2.1 = s.1 + 1) ∧ (s.1 + y) % 2 = 0
  right : s.2.2.2 = s.2.1 ∨ (s.2.2.2 = s.2.1 - 1 ∨ s.2.2.2 = s.2.1 + 1) ∧ (s.2.1 + y) % 2 = 0
  wide : s.1 + 2 ≤ s.2.1 ∧ s.2.2.1 + 2 ≤ s.2.2.2
theorem barsX_cnt (s : Strp) (y x : Int) : ((barsX s y x).length : Int) = if (x + y) % 2 ≠ 0 then 0 else (if s.2.2.1 ≤ x - 1 ∧ x - 1 ≤ s.2.2.2 then 1 else 0) + (if s.2.2.1 ≤ x + 1 ∧ x + 1 ≤ s.2.2.2 then 1 else 0) := by
  unfold barsX
  split
  · rfl
  · split <;> split <;> simp
def topZ (s : Strp) (y x : Int) : Int := if (x + y) % 2 = 0 then min (x + 1) (max s.2.1 s.2.2.2) else x
theorem barsN_cnt {s : Strp} {y : Int} (h : SOk s y) : ∀ n : Nat, s.1 + n ≤ s.2.1 → ((barsN s y (n + 1)).length : Int) = topZ s y (s.1 + n) - min s.1 s.2.2.1
  | 0, _ => by
    obtain ⟨hl, hr, hw⟩ := h
    obtain ⟨a, b, c, d⟩ := s
    simp only at hl hr hw ⊢
    have e : barsN (a, b, c, d) y (0 + 1) = barsX (a, b, c, d) y (a + ((0 : Nat) : Int)) := by simp [barsN]
    rw [e, barsX_cnt]
    unfold topZ
    simp only
    have e0 : a + ((0 : Nat) : Int) = a := by omega
    rw [e0]
    by_cases hp : (a + y) % 2 = 0
    · rw [if_neg (by omega), if_pos hp]
      rw [if_pos (show c ≤ a + 1 ∧ a + 1 ≤ d by omega)]
      split <;> omega
    · rw [if_pos hp, if_neg hp]
      omega
  | n + 1, hn => by
    have ih := barsN_cnt h n (by omega)
    obtain ⟨hl, hr, hw⟩ := h
    obtain ⟨a, b, c, d⟩ := s
    simp only at hl hr hw ih hn ⊢
    have e : barsN (a, b, c, d) y (n + 1 + 1) = barsN (a, b, c, d) y (n + 1) ++ barsX (a, b, c, d) y (a + ((n + 1 : Nat) : Int)) := rfl
    rw [e, List.length_append]
    push_cast
    rw [ih, barsX_cnt]
    unfold topZ
    simp only
    by_cases hp : (a + (n : Int) + y) % 2 = 0
    · rw [if_pos hp, if_pos (show (a + ((n : Int) + 1) + y) % 2 ≠ 0 by omega), if_neg (show ¬ (a + ((n : Int) + 1) + y) % 2 = 0 by omega)]
      omega
    · rw [if_neg hp, if_neg (show ¬ (a + ((n : Int) + 1) + y) % 2 ≠ 0 by omega), if_pos (show (a + ((n : Int) + 1) + y) % 2 = 0 by omega)]
      rw [if_pos (show c ≤ a + ((n : Int) + 1) - 1 ∧ a + ((n : Int) + 1) - 1 ≤ d by omega)]
      split <;> omega
/-- the bars of a strip -/
theorem barsS_cnt {s : Strp} {y : Int} (h : SOk s y) : ((barsS s y).length : Int) = max s.2.1 s.2.2.2 - min s.1 s.2.2.1 := by
  have h2 := h
  obtain ⟨hl, hr, hw⟩ := h2
  obtain ⟨m, hm⟩ : ∃ m : Nat, s.2.1 - s.1 = m := ⟨(s.2.1 - s.1).toNat, by omega⟩
  have e : (s.2.1 - s.1 + 1).toNat = m + 1 := by omega
  have := barsN_cnt h m (by omega)
  unfold barsS
  rw [e, this]
  unfold topZ
  split <;> omega
/-! ## an outline, strip by strip -/
def sidS (right : Bool) (k : Knot) : List Stp → List (Int × Int)
  | [] => []
  | s :: r => (if s.1 = 78 then [(k.1, k.1), (k.1, k.1)] else if s.1 = 66 then [(k.1, (stepK right k s).1)] else []) ++ sidS right (stepK right k s) r
theorem sidS_len (right : Bool) : ∀ (l : List Stp) (k : Knot), ((sidS right k l).length : Int) = riseL l
  | [], _ => rfl
  | s :: r, k => by
    rw [sidS, List.length_append, riseL_cons]
    push_cast
    rw [sidS_len right r]
    unfold riseC
    split
    · rfl
    · split <;> rfl
theorem plcI_cons (k n : Knot) (r : List Knot) (y : Int) : plcI (k :: n :: r) y = if k.2 ≤ y ∧ y < n.2 then (if n.2 = k.2 + 1 then (k.1, n.1) else (n.1, n.1)) else plcI (n :: r) y := rfl
theorem outK_cons (right : Bool) (k : Knot) : ∀ l : List Stp, ∃ r, outK right k l = k :: r
  | [] => ⟨[], rfl⟩
  | s :: r => ⟨outK right (stepK right k s) r, rfl⟩
theorem plcI_sid (right : Bool) : ∀ (l : List Stp) (k : Knot) (i : Nat) (hi : i < (sidS right k l).length), plcI (outK right k l) (k.2 + (i : Int)) = (sidS right k l)[i]
  | [], k, i, hi => by simp [sidS] at hi
  | s :: r, k, i, hi => by
    obtain ⟨r', hr'⟩ := outK_cons right (stepK right k s) r
    have ih := plcI_sid right r (stepK right k s)
    have e : outK right k (s :: r) = k :: stepK right k s :: r' := by rw [outK, hr']
    rw [e, plcI_cons, ← hr']
    have hy := step_y right k s
    unfold riseC at hy
    by_cases h1 : s.1 = 78
    · rw [if_pos h1] at hy
      have hx : (stepK right k s).1 = k.1 := by unfold stepK aft; rw [if_pos h1]
      have es : sidS right k (s :: r) = (k.1, k.1) :: (k.1, k.1) :: sidS right (stepK right k s) r := by rw [sidS, if_pos h1]; rfl
      match i with
      | 0 =>
        rw [if_pos (by omega), if_neg (by omega), hx]
        simp [es]
      | 1 =>
        rw [if_pos (by omega), if_neg (by omega), hx]
        simp [es]
      | j + 2 =>
        have hj : j < (sidS right (stepK right k s) r).length := by rw [es] at hi; simpa using hi
        rw [if_neg (by omega), show k.2 + ((j + 2 : Nat) : Int) = (stepK right k s).2 + (j : Int) by omega, ih j hj]
        simp [es]
    · rw [if_neg h1] at hy
      by_cases h2 : s.1 = 66
      · rw [if_pos h2] at hy
        have es : sidS right k (s :: r) = (k.1, (stepK right k s).1) :: sidS right (stepK right k s) r := by rw [sidS, if_neg h1, if_pos h2]; rfl
        match i with
        | 0 =>
          rw [if_pos (by omega), if_pos (by omega)]
          simp [es]
        | j + 1 =>
          have hj : j < (sidS right (stepK right k s) r).length := by rw [es] at hi; simpa using hi
          rw [if_neg (by omega), show k.2 + ((j + 1 : Nat) : Int) = (stepK right k s).2 + (j : Int) by omega, ih j hj]
          simp [es]
      · rw [if_neg h2] at hy
        have es : sidS right k (s :: r) = sidS right (stepK right k s) r := by rw [sidS, if_neg h1, if_neg h2]; rfl
        have hj : i < (sidS right (stepK right k s) r).length := by rw [es] at hi; exact hi
        rw [if_neg (by omega), show k.2 + (i : Int) = (stepK right k s).2 + (i : Int) by omega, ih i hj]
        simp [es]
/-- what holds of each strip of an outline: straight, or by one and from an even place -/
theorem sidS_ok (right : Bool) : ∀ (l : List Stp) (k : Knot) (_ : (k.1 + k.2) % 2 = 0) (i : Nat) (hi : i < (sidS right k l).length),
    (sidS right k l)[i].2 = (sidS right k l)[i].1 ∨ ((sidS right k l)[i].2 = (sidS right k l)[i].1 - 1 ∨ (sidS right k l)[i].2 = (sidS right k l)[i].1 + 1) ∧ ((sidS right k l)[i].1 + (k.2 + (i : Int))) % 2 = 0
  | [], k, _, i, hi => by simp [sidS] at hi
  | s :: r, k, hk, i, hi => by
    have hy := step_y right k s
    unfold riseC at hy
    by_cases h1 : s.1 = 78
    · rw [if_pos h1] at hy
      have hx : (stepK right k s).1 = k.1 := by unfold stepK aft; rw [if_pos h1]
      have ih := sidS_ok right r (stepK right k s) (by omega)
      have es : sidS right k (s :: r) = (k.1, k.1) :: (k.1, k.1) :: sidS right (stepK right k s) r := by rw [sidS, if_pos h1]; rfl
      match i with
      | 0 => left; simp [es]
      | 1 => left; simp [es]
      | j + 2 =>
        have hj : j < (sidS right (stepK right k s) r).length := by rw [es] at hi; simpa using hi
        have := ih j hj
        simp only [es, List.getElem_cons_succ]
        rw [show k.2 + ((j + 2 : Nat) : Int) = (stepK right k s).2 + (j : Int) by omega]
        exact this
    · rw [if_neg h1] at hy
      by_cases h2 : s.1 = 66
      · rw [if_pos h2] at hy
        have hx : (stepK right k s).1 = k.1 - 1 ∨ (stepK right k s).1 = k.1 + 1 := by
          unfold stepK aft sideI
          rw [if_neg h1, if_pos h2]
          simp only
          split
          · exact .inr rfl
          · exact .inl (by omega)
        have ih := sidS_ok right r (stepK right k s) (by omega)
        have es : sidS right k (s :: r) = (k.1, (stepK right k s).1) :: sidS right (stepK right k s) r := by rw [sidS, if_neg h1, if_pos h2]; rfl
        match i with
        | 0 =>
          right
          simp only [es, List.getElem_cons_zero]
          exact ⟨hx, by simpa using hk⟩
        | j + 1 =>
          have hj : j < (sidS right (stepK right k s) r).length := by rw [es] at hi; simpa using hi
          have := ih j hj
          simp only [es, List.getElem_cons_succ]
          rw [show k.2 + ((j + 1 : Nat) : Int) = (stepK right k s).2 + (j : Int) by omega]
          exact this
      · rw [if_neg h2] at hy
        have hx : (stepK right k s).1 = k.1 - 2 ∨ (stepK right k s).1 = k.1 + 2 := by
          unfold stepK aft sideI
          rw [if_neg h1, if_neg h2]
          simp only
          split
          · exact .inr (by omega)
          · exact .inl (by omega)
        have ih := sidS_ok right r (stepK right k s) (by omega)
        have es : sidS right k (s :: r) = sidS right (stepK right k s) r := by rw [sidS, if_neg h1, if_neg h2]; rfl
        have hj : i < (sidS right (stepK right k s) r).length := by rw [es] at hi; exact hi
        have := ih i hj
        simp only [es]
        rw [show k.2 + (i : Int) = (stepK right k s).2 + (i : Int) by omega]
        exact this
end Go.Proofs.YthkjgcldolnjaaaGreatDoor

/- Strips are two wide; how many bars a panel has, plain. Conditions: the panel is valid. -/
namespace Go.Proofs.YthkjgcldolnjaaaGreatDoor
open Go.RowKit Go.ChangeMaps
set_option maxHeartbeats 4000000
set_option maxRecDepth 100000

/-! # Strips are two wide; how many bars a panel has -/
def hits (row : Int) : Int → List Knot → Int → Prop
  | _, [], _ => False
  | y, k :: r, X => (hitR row y k = true ∧ k.1 = X) ∨ hits row k.2 r X
theorem rchGo_acc (row : Int) : ∀ (l : List Knot) (y : Int) (a : Int × Int), (rchGo row y l a).1 ≤ a.1 ∧ a.2 ≤ (rchGo row y l a).2
  | [], _, _ => ⟨Int.le_refl _, Int.le_refl _⟩
  | k :: r, y, a => by
    have ih := rchGo_acc row r k.2 (if hitR row y k then minmax a k.1 else a)
    rw [rchGo]
    by_cases hq : hitR row y k = true
    · rw [if_pos hq] at ih ⊢
      obtain ⟨t1, t2⟩ := ih
      have t3 : (rchGo row k.2 r (minmax a k.1)).1 ≤ min a.1 k.1 := t1
      have t4 : max a.2 k.1 ≤ (rchGo row k.2 r (minmax a k.1)).2 := t2
      omega
    · rw [if_neg hq] at ih ⊢
      exact ih
theorem rchGo_hit (row : Int) : ∀ (l : List Knot) (y : Int) (a : Int × Int) (X : Int), hits row y l X → (rchGo row y l a).1 ≤ X ∧ X ≤ (rchGo row y l a).2
  | [], _, _, _, h => h.elim
  | k :: r, y, a, X, h => by
    rw [rchGo]
    rcases h with ⟨h1, h2⟩ | h
    · have := rchGo_acc row r k.2 (if hitR row y k then minmax a k.1 else a)
      rw [if_pos h1] at this ⊢
      obtain ⟨t1, t2⟩ := this
      have t3 : (rchGo row k.2 r (minmax a k.1)).1 ≤ min a.1 k.1 := t1
      have t4 : max a.2 k.1 ≤ (rchGo row k.2 r (minmax a k.1)).2 := t2
      omega
    · exact rchGo_hit row r k.2 _ X h
theorem rchI_hit {row X : Int} {k : Knot} {r : List Knot} (h : hits row k.2 (k :: r) X) : (rchI (k :: r) row).1 ≤ X ∧ X ≤ (rchI (k :: r) row).2 := rchGo_hit row (k :: r) k.2 noneR X h
theorem hits_back {row y X : Int} {n : Knot} {r : List Knot} (h : hits row n.2 (n :: r) X) : hits row y (n :: r) X := by
  rcases h with ⟨h1, h2⟩ | h
  · refine .inl ⟨?_, h2⟩
    unfold hitR at h1 ⊢
    simp only [decide_eq_true_eq] at h1 ⊢
    omega
  · exact .inr h
theorem hitR_own {row y : Int} {k : Knot} (h : k.2 = row) : hitR row y k = true := by unfold hitR; exact decide_eq_true (.inl h)
theorem hitR_past {row y : Int} {k : Knot} (h : y < row) (h2 : row < k.2) : hitR row y k = true := by unfold hitR; exact decide_eq_true (.inr ⟨h, h2⟩)
/-- the places of each strip bear on its lower and on its upper row -/
theorem sid_hits (right : Bool) : ∀ (l : List Stp) (k : Knot) (i : Nat) (hi : i < (sidS right k l).length),
    hits (k.2 + (i : Int)) k.2 (outK right k l) (sidS right k l)[i].1 ∧ hits (k.2 + (i : Int) + 1) k.2 (outK right k l) (sidS right k l)[i].2
  | [], k, i, hi => by simp [sidS] at hi
  | s :: r, k, i, hi => by
    obtain ⟨r', hr'⟩ := outK_cons right (stepK right k s) r
    have ih := sid_hits right r (stepK right k s)
    rw [outK, hr']
    rw [hr'] at ih
    have hy := step_y right k s
    unfold riseC at hy
    by_cases h1 : s.1 = 78
    · rw [if_pos h1] at hy
      have hx : (stepK right k s).1 = k.1 := by unfold stepK aft; rw [if_pos h1]
      have es : sidS right k (s :: r) = (k.1, k.1) :: (k.1, k.1) :: sidS right (stepK right k s) r := by rw [sidS, if_pos h1]; rfl
      match i with
      | 0 =>
        simp only [es, List.getElem_cons_zero]
        exact ⟨.inl ⟨hitR_own (by omega), rfl⟩, .inr (.inl ⟨hitR_past (by omega) (by omega), hx⟩)⟩
      | 1 =>
        simp only [es, List.getElem_cons_succ, List.getElem_cons_zero]
        exact ⟨.inr (.inl ⟨hitR_past (by omega) (by omega), hx⟩), .inr (.inl ⟨hitR_own (by omega), hx⟩)⟩
      | j + 2 =>
        have hj : j < (sidS right (stepK right k s) r).length := by rw [es] at hi; simpa using hi
        obtain ⟨i1, i2⟩ := ih j hj
        simp only [es, List.getElem_cons_succ]
        rw [show k.2 + ((j + 2 : Nat) : Int) = (stepK right k s).2 + (j : Int) by omega]
        exact ⟨.inr (hits_back i1), .inr (hits_back i2)⟩
    · rw [if_neg h1] at hy
      by_cases h2 : s.1 = 66
      · rw [if_pos h2] at hy
        have es : sidS right k (s :: r) = (k.1, (stepK right k s).1) :: sidS right (stepK right k s) r := by rw [sidS, if_neg h1, if_pos h2]; rfl
        match i with
        | 0 =>
          simp only [es, List.getElem_cons_zero]
          exact ⟨.inl ⟨hitR_own (by omega), rfl⟩, .inr (.inl ⟨hitR_own (by omega), rfl⟩)⟩
        | j + 1 =>
          have hj : j < (sidS right (stepK right k s) r).length := by rw [es] at hi; simpa using hi
          obtain ⟨i1, i2⟩ := ih j hj
          simp only [es, List.getElem_cons_succ]
          rw [show k.2 + ((j + 1 : Nat) : Int) = (stepK right k s).2 + (j : Int) by omega]
          exact ⟨.inr (hits_back i1), .inr (hits_back i2)⟩
      · rw [if_neg h2] at hy
        have es : sidS right k (s :: r) = sidS right (stepK right k s) r := by rw [sidS, if_neg h1, if_neg h2]; rfl
        have hj : i < (sidS right (stepK right k s) r).length := by rw [es] at hi; exact hi
        obtain ⟨i1, i2⟩ := ih i hj
        simp only [es]
        rw [show k.2 + (i : Int) = (stepK right k s).2 + (i : Int) by omega]
        exact ⟨.inr (hits_back i1), .inr (hits_back i2)⟩
/-! ## the strips of a valid panel -/
def sidP (p : Pan) (right : Bool) : List (Int × Int) := sidS right (fromP p right) (stpL (sideP p right))
theorem fromP_y (p : Pan) (right : Bool) : (fromP p right).2 = 0 := by unfold fromP; split <;> rfl
theorem sidP_len {p : Pan} (h : PanOk p) (right : Bool) : ((sidP p right).length : Int) = heightP p := by
  unfold sidP
  rw [sidS_len]
  cases right
  · rfl
  · exact h.same
theorem plcI_sidP (p : Pan) (right : Bool) (i : Nat) (hi : i < (sidP p right).length) : plcI (outP p right) (i : Int) = (sidP p right)[i] := by
  have := plcI_sid right (stpL (sideP p right)) (fromP p right) i hi
  rw [fromP_y, Int.zero_add] at this
  exact this
theorem free_at {p : Pan} (h : PanOk p) (y : Nat) (hy : (y : Int) ≤ heightP p) : (rchI (outP p false) (y : Nat)).2 + 2 ≤ (rchI (outP p true) (y : Nat)).1 := by
  have hf := h.free
  unfold crossB at hf
  rw [List.any_eq_false] at hf
  have := hf y (List.mem_range.2 (by omega))
  simp only [decide_eq_true_eq] at this
  omega
theorem hit_sidP (p : Pan) (right : Bool) (i : Nat) (hi : i < (sidP p right).length) :
    ((rchI (outP p right) (i : Int)).1 ≤ (sidP p right)[i].1 ∧ (sidP p right)[i].1 ≤ (rchI (outP p right) (i : Int)).2) ∧ ((rchI (outP p right) ((i + 1 : Nat) : Int)).1 ≤ (sidP p right)[i].2 ∧ (sidP p right)[i].2 ≤ (rchI (outP p right) ((i + 1 : Nat) : Int)).2) := by
  obtain ⟨h1, h2⟩ := sid_hits right (stpL (sideP p right)) (fromP p right) i hi
  obtain ⟨r, hr⟩ := outK_cons right (fromP p right) (stpL (sideP p right))
  unfold outP
  rw [hr] at h1 h2 ⊢
  have g1 := rchI_hit h1
  have g2 := rchI_hit h2
  rw [fromP_y, Int.zero_add] at g1 g2
  exact ⟨g1, by push_cast; exact g2⟩
theorem strips_get {p : Pan} (i : Nat) (hi : i < (strips p).length) (h1 : i < (sidP p false).length) (h2 : i < (sidP p true).length) :
    (strips p)[i] = ((sidP p false)[i].1, (sidP p true)[i].1, (sidP p false)[i].2, (sidP p true)[i].2) := by
  have e : (strips p)[i] = strI (outP p false) (outP p true) ((i : Nat) : Int) := by simp [strips]
  rw [e]
  unfold strI
  rw [plcI_sidP p false i h1, plcI_sidP p true i h2]
theorem sid_lens {p : Pan} (h : PanOk p) : (sidP p false).length = (strips p).length ∧ (sidP p true).length = (strips p).length := by
  have h1 := sidP_len h false
  have h2 := sidP_len h true
  have h3 := strips_len p
  have h4 := h.high
  omega
theorem strips_ok {p : Pan} (h : PanOk p) (i : Nat) (hi : i < (strips p).length) : SOk (strips p)[i] (i : Int) := by
  obtain ⟨e1, e2⟩ := sid_lens h
  have h1 : i < (sidP p false).length := by omega
  have h2 : i < (sidP p true).length := by omega
  rw [strips_get i hi h1 h2]
  have hh := strips_len p
  have h4 := h.high
  have o1 := sidS_ok false (stpL (sideP p false)) (fromP p false) (by unfold fromP; simp) i h1
  have o2 := sidS_ok true (stpL (sideP p true)) (fromP p true) (by unfold fromP; simp) i h2
  rw [fromP_y, Int.zero_add] at o1 o2
  have w1 := free_at h i (by omega)
  have w2 := free_at h (i + 1) (by omega)
  obtain ⟨⟨_, a1⟩, _, a2⟩ := hit_sidP p false i h1
  obtain ⟨⟨b1, _⟩, b2, _⟩ := hit_sidP p true i h2
  refine ⟨o1, o2, ?_⟩
  simp only
  omega
/-! ## twice the bars of a panel -/
end Go.Proofs.YthkjgcldolnjaaaGreatDoor

/- The rows of a panel's net: those of the reference, plain. Conditions: the panel is valid. -/
namespace Go.Proofs.YthkjgcldolnjaaaGreatDoor
open Go.RowKit Go.ChangeMaps
set_option maxHeartbeats 4000000
set_option maxRecDepth 100000

/-! # The rows of a panel's net: those of the reference -/
theorem mm_fold : ∀ (xs : List Int) (a : Int × Int), (∀ x ∈ xs, (xs.foldl minmax a).1 ≤ x ∧ x ≤ (xs.foldl minmax a).2) ∧ (xs.foldl minmax a).1 ≤ a.1 ∧ a.2 ≤ (xs.foldl minmax a).2 ∧ ((xs.foldl minmax a).1 = a.1 ∨ (xs.foldl minmax a).1 ∈ xs) ∧ ((xs.foldl minmax a).2 = a.2 ∨ (xs.foldl minmax a).2 ∈ xs)
  | [], a => ⟨(fun x hx => by cases hx), Int.le_refl _, Int.le_refl _, .inl rfl, .inl rfl⟩
  | x :: r, a => by
    obtain ⟨h1, h2, h3, h4, h5⟩ := mm_fold r (minmax a x)
    rw [List.foldl_cons]
    obtain ⟨q, hq⟩ : ∃ q, r.foldl minmax (minmax a x) = q := ⟨_, rfl⟩
    rw [hq] at h1 h2 h3 h4 h5 ⊢
    have e1 : (minmax a x).1 = min a.1 x := rfl
    have e2 : (minmax a x).2 = max a.2 x := rfl
    rw [e1] at h2 h4
    rw [e2] at h3 h5
    refine ⟨fun z hz => ?_, by omega, by omega, ?_, ?_⟩
    · rcases List.mem_cons.1 hz with rfl | hz
      · omega
      · exact h1 z hz
    · rcases h4 with h4 | h4
      · by_cases hx : a.1 ≤ x
        · exact .inl (by omega)
        · exact .inr (by rw [show q.1 = x by omega]; exact List.mem_cons_self ..)
      · exact .inr (List.mem_cons_of_mem _ h4)
    · rcases h5 with h5 | h5
      · by_cases hx : x ≤ a.2
        · exact .inl (by omega)
        · exact .inr (by rw [show q.2 = x by omega]; exact List.mem_cons_self ..)
      · exact .inr (List.mem_cons_of_mem _ h5)
/-! ## the rows of a valid panel -/
theorem hits_mem {row X : Int} : ∀ {l : List Knot} {y : Int}, hits row y l X → ∃ k ∈ l, k.1 = X
  | [], _, h => h.elim
  | k :: r, _, h => by
    rcases h with ⟨_, h2⟩ | h
    · exact ⟨k, List.mem_cons_self .., h2⟩
    · obtain ⟨k', h1, h2⟩ := hits_mem h
      exact ⟨k', List.mem_cons_of_mem _ h1, h2⟩
end Go.Proofs.YthkjgcldolnjaaaGreatDoor

/- A panel's bars are a net, plain. Conditions: the panel is valid. -/
namespace Go.Proofs.YthkjgcldolnjaaaGreatDoor
open Go.RowKit Go.ChangeMaps
set_option maxHeartbeats 4000000
set_option maxRecDepth 100000

/-! # A panel's bars are a net -/
end Go.Proofs.YthkjgcldolnjaaaGreatDoor

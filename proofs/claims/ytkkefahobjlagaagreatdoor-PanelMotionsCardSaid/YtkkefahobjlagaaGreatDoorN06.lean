/- Nets and knots in their order, plain; what a net without an error is. Conditions: none. -/
import Derived.Test.YtkkefahobjlagaaGreatDoorN05
import Derived.Shelf.SlSortCmp.NoneTotal
import Derived.Shelf.SlGeneric
import Derived.Shelf.SlLaysF0
import Derived.Shelf.SlLaysH0
import Derived.Shelf.SlLaysE0
import Derived.Shelf.SlLaysE
import Derived.Shelf.SlLaysQ
import Derived.Ground.SlsfProg
import Derived.Ground.SlgfProg
import Derived.Ground.SlgqProg
import Derived.Ground.SlgnProg
import Derived.Test.YtkkefahobjlagaaGreatDoorProg
namespace Go.Proofs.YtkkefahobjlagaaGreatDoor
open Go.RowKit
set_option maxHeartbeats 2000000
set_option maxRecDepth 100000
@[go_sem] theorem store_func (P : Program) (w : World) (p : Addr) (f : Fn) (a b : Array Value) : (store p (.func f a b)).run P w = match w.cell? p with
      | some _ => if w.frozen? p then .halt (.unsupported (.unsafePointer "a write to bytes that a string shares")) w else .ok () (w.setCell p (.func f a b))
      | none => match w.farStore P p (.func f a b) (Mode.plain == .atomic) with
        | .ok (w', _) => .ok () w'
        | .error h => .halt h w := run_store P w p (.func f a b) .plain rfl
def BarOk (b : Bar) : Prop := (-200000 ≤ b.1 ∧ b.1 ≤ 200000) ∧ (-200000 ≤ b.2.1 ∧ b.2.1 ≤ 200000) ∧ (b.2.2 = 1 ∨ b.2.2 = -1)
def bltP (a b : Bar) : Prop := barLt a.1 a.2.1 a.2.2 b.1 b.2.1 b.2.2 = true
theorem bltP_iff (a b : Bar) : bltP a b ↔ a.2.1 < b.2.1 ∨ a.2.1 = b.2.1 ∧ (a.1 < b.1 ∨ a.1 = b.1 ∧ a.2.2 < b.2.2) := by simp [bltP, barLt]
theorem bltP_trans {a b c : Bar} (h : bltP a b) (h' : bltP b c) : bltP a c := by
 rw [bltP_iff] at *
 omega
theorem bltP_irrefl (a : Bar) : ¬ bltP a a := by
 rw [bltP_iff]
 omega
theorem barE_ok {x y s : Int} (h : barE x y s = 0) : BarOk (x, y, s) := by
 unfold barE at h
 split at h
 ·rename_i h1
  exact absurd h (by simpa using h1)
 ·rename_i h1
  obtain ⟨a1, a2, a3, a4, _⟩ := knotE_zero (by simpa using h1)
  split at h
  ·cases h
  ·rename_i h2
   refine ⟨⟨by show -200000 ≤ x; omega, by show x ≤ 200000; omega⟩, ⟨by show -200000 ≤ y; omega, by show y ≤ 200000; omega⟩, ?_⟩
   show s = 1 ∨ s = -1
   omega
theorem netGo_ok : ∀ (l : List Bar) (p : Option Bar), netGo p l = 0 → (∀ b ∈ l, BarOk b) ∧ l.Pairwise bltP ∧ ∀ q, p = some q → ∀ b ∈ l, bltP q b
 | [], _, _ => ⟨by simp, List.Pairwise.nil, by simp⟩
 | b :: r, p, h => by
  unfold netGo at h
  split at h
  ·rename_i h1
   exact absurd h h1
  ·rename_i h1
   split at h
   ·cases h
   ·rename_i h2
    obtain ⟨i1, i2, i3⟩ := netGo_ok r (some b) h
    have hq : ∀ q, p = some q → bltP q b := fun q hq => by
     subst hq
     simpa [bltP] using h2
    refine ⟨?_, List.Pairwise.cons (i3 b rfl) i2, fun q hp c hc => ?_⟩
    ·intro c hc
     rcases List.mem_cons.1 hc with rfl | hc
     ·exact barE_ok (by simpa using h1)
     ·exact i1 c hc
    ·rcases List.mem_cons.1 hc with rfl | hc
     ·exact hq q hp
     ·exact bltP_trans (hq q hp) (i3 b rfl c hc)
structure NetOk (l : List Bar) : Prop where
 len : l.length ≤ 4096
 ok : ∀ b ∈ l, BarOk b
 sorted : l.Pairwise bltP
theorem NetOk.nodup {l : List Bar} (h : NetOk l) : l.Nodup := h.sorted.imp fun hab e => by subst e; exact bltP_irrefl _ hab
theorem netE_ok {l : List Bar} (h : netE l = 0) : NetOk l := by
 unfold netE at h
 split at h
 ·cases h
 ·rename_i h1
  obtain ⟨i1, i2, _⟩ := netGo_ok l none h
  exact ⟨by omega, i1, i2⟩
theorem sorted_unique {α : Type} {R : α → α → Prop} (irr : ∀ a, ¬ R a a) (tr : ∀ a b c, R a b → R b c → R a c) : ∀ {l r : List α}, l.Pairwise R → r.Pairwise R → (∀ x, x ∈ l ↔ x ∈ r) → l = r
 | [], [], _, _, _ => rfl
 | [], y :: r, _, _, h => by have := (h y).2 (by simp); simp at this
 | x :: l, [], _, _, h => by have := (h x).1 (by simp); simp at this
 | x :: l, y :: r, h1, h2, h => by
  obtain ⟨p1, p2⟩ := List.pairwise_cons.1 h1
  obtain ⟨q1, q2⟩ := List.pairwise_cons.1 h2
  have hxy : x = y := by
   rcases List.mem_cons.1 ((h x).1 (by simp)) with e | e
   ·exact e
   ·rcases List.mem_cons.1 ((h y).2 (by simp)) with e' | e'
    ·exact e'.symm
    ·exact absurd (tr _ _ _ (q1 _ e) (p1 _ e')) (irr _)
  subst hxy
  have ht : ∀ z, z ∈ l ↔ z ∈ r := fun z => by
   constructor
   ·intro hz
    rcases List.mem_cons.1 ((h z).1 (by simp [hz])) with e | e
    ·subst e; exact absurd (p1 _ hz) (irr _)
    ·exact e
   ·intro hz
    rcases List.mem_cons.1 ((h z).2 (by simp [hz])) with e | e
    ·subst e; exact absurd (q1 _ hz) (irr _)
    ·exact e
  rw [sorted_unique irr tr p2 q2 ht]
def kltP (a b : Knot) : Prop := a.2 < b.2 ∨ a.2 = b.2 ∧ a.1 < b.1
instance (a b : Knot) : Decidable (kltP a b) := inferInstanceAs (Decidable (a.2 < b.2 ∨ a.2 = b.2 ∧ a.1 < b.1))
theorem kltP_irr (a : Knot) : ¬ kltP a a := by unfold kltP; omega
theorem kltP_tr (a b c : Knot) : kltP a b → kltP b c → kltP a c := by unfold kltP; omega
theorem kltP_tri {a b : Knot} (h : ¬ kltP a b) (hne : a ≠ b) : kltP b a := by
 unfold kltP at h ⊢
 have : ¬ (a.1 = b.1 ∧ a.2 = b.2) := fun ⟨h1, h2⟩ => hne (Prod.ext h1 h2)
 omega
def insK : List Knot → Knot → List Knot
 | [], k => [k]
 | x :: r, k => if kltP x k then x :: insK r k else if x = k then x :: r else k :: x :: r
theorem insK_mem (k y : Knot) : ∀ l, y ∈ insK l k ↔ y = k ∨ y ∈ l
 | [] => by simp [insK]
 | x :: r => by
  unfold insK
  split
  ·rw [List.mem_cons, insK_mem k y r, List.mem_cons]
   constructor
   ·rintro (h | h | h) <;> simp [h]
   ·rintro (h | h | h) <;> simp [h]
  ·split
   ·rename_i h
    subst h
    simp
   ·simp
theorem insK_sorted (k : Knot) : ∀ {l : List Knot}, l.Pairwise kltP → (insK l k).Pairwise kltP
 | [], _ => by simp [insK]
 | x :: r, h => by
  obtain ⟨h1, h2⟩ := List.pairwise_cons.1 h
  unfold insK
  split
  ·rename_i hx
   refine List.pairwise_cons.2 ⟨fun y hy => ?_, insK_sorted k h2⟩
   rcases (insK_mem k y r).1 hy with rfl | hy
   ·exact hx
   ·exact h1 y hy
  ·rename_i hx
   split
   ·exact h
   ·rename_i hne
    refine List.pairwise_cons.2 ⟨fun y hy => ?_, h⟩
    have := kltP_tri hx hne
    rcases List.mem_cons.1 hy with rfl | hy
    ·exact this
    ·exact kltP_tr _ _ _ this (h1 y hy)
def holeIn (o : List Knot) (D : List Bar) : List Knot := D.foldl (fun o b => insK (insK o (lowK b)) (uppK b)) o
def holeK (D : List Bar) : List Knot := holeIn [] D
theorem holeIn_mem (k : Knot) : ∀ (D : List Bar) (o : List Knot), k ∈ holeIn o D ↔ k ∈ o ∨ ∃ b ∈ D, k = lowK b ∨ k = uppK b
 | [], o => by simp [holeIn]
 | b :: D, o => by
  show k ∈ holeIn (insK (insK o (lowK b)) (uppK b)) D ↔ _
  rw [holeIn_mem k D, insK_mem, insK_mem]
  simp only [List.mem_cons, exists_eq_or_imp]
  constructor
  ·rintro ((h | h | h) | h)
   ·exact .inr (.inl (.inr h))
   ·exact .inr (.inl (.inl h))
   ·exact .inl h
   ·exact .inr (.inr h)
  ·rintro (h | (h | h) | h)
   ·exact .inl (.inr (.inr h))
   ·exact .inl (.inr (.inl h))
   ·exact .inl (.inl h)
   ·exact .inr h
theorem holeIn_sorted : ∀ (D : List Bar) (o : List Knot), o.Pairwise kltP → (holeIn o D).Pairwise kltP
 | [], _, h => h
 | _ :: D, _, h => holeIn_sorted D _ (insK_sorted _ (insK_sorted _ h))
theorem holeK_sorted (D : List Bar) : (holeK D).Pairwise kltP := holeIn_sorted D [] List.Pairwise.nil
theorem sortedB_eq {l r : List Bar} (h1 : l.Pairwise bltP) (h2 : r.Pairwise bltP) (h : ∀ x, x ∈ l ↔ x ∈ r) : l = r := sorted_unique bltP_irrefl (fun _ _ _ => bltP_trans) h1 h2 h
theorem sortedB_nodup {l : List Bar} (h : l.Pairwise bltP) : l.Nodup := h.imp fun hab e => by subst e; exact bltP_irrefl _ hab
theorem sortedK_eq {l r : List Knot} (h1 : l.Pairwise kltP) (h2 : r.Pairwise kltP) (h : ∀ x, x ∈ l ↔ x ∈ r) : l = r := sorted_unique kltP_irr kltP_tr h1 h2 h
theorem sortedK_nodup {l : List Knot} (h : l.Pairwise kltP) : l.Nodup := h.imp fun hab e => by subst e; exact kltP_irr _ hab
instance (a b : Bar) : Decidable (bltP a b) := inferInstanceAs (Decidable (barLt a.1 a.2.1 a.2.2 b.1 b.2.1 b.2.2 = true))
def hasb (l : List Bar) (b : Bar) : Bool := decide (b ∈ l)
end Go.Proofs.YtkkefahobjlagaaGreatDoor
namespace Go.Proofs.YtkkefahobjlagaaGreatDoor
open Go.RowKit Go.Sort
set_option maxHeartbeats 2000000
set_option maxRecDepth 100000
def RE (w : World) (v : Value) (e : Ending) (w' : World) : Prop := e = .returned v ∧ w' = w
def Grw (w w' : World) : Prop := ∃ q os, w' = grow (w.drewN q) os
def GV (w : World) (v : Value) (e : Ending) (w' : World) : Prop := e = .returned v ∧ Grw w w'
theorem Grw.refl (w : World) : Grw w w := ⟨0, #[], by simp [grow, World.drewN]⟩
theorem Grw.alloc {w W : World} (h : Grw w W) (o : Obj) : Grw w (W.alloc o) := by
 obtain ⟨q, os, rfl⟩ := h
 exact ⟨q, os.push o, by simp [grow, World.drewN, World.alloc]⟩
theorem Grw.drew {w W : World} (h : Grw w W) : Grw w W.drew := by
 obtain ⟨q, os, rfl⟩ := h
 exact ⟨q + 1, os, by simp [grow, World.drewN, World.drew, Nat.add_assoc]⟩
theorem isNaN_ex (n : Int) (w : World) : Calls Tryz.prog 179 #[.int .i64 n] w (RE w (.bool false)) := by
 have h : (n != n) = false := by simp
 go_enter Tryz.func179, Tryz.ntmps179
 go_wp2
 go_ret
 exact ⟨ret_bool (by simp), rfl⟩
theorem cmp_ex (a b : Int) (w : World) : Calls Tryz.prog 147 #[.int .i64 a, .int .i64 b] w (RE w (.int .i64 (cmpI a b))) := by
 go_enter Tryz.func147, Tryz.ntmps147
 go_wp2_with (go_at_call 179; refine (isNaN_ex _ _).mono ?_; rintro e w1 ⟨rfl, rfl⟩)
 all_goals go_ret
 all_goals refine ⟨ret_int ?_, rfl⟩
 ·have h : a < b := by assumption
  simp [cmpI, h]
 ·have h : b < a := by assumption
  have h' : ¬ a < b := by omega
  simp [cmpI, h, h']
 ·have h : b ≤ a := by assumption
  have h'' : a ≤ b := by assumption
  have h1 : ¬ a < b := by omega
  have h2 : ¬ b < a := by omega
  simp [cmpI, h1, h2]
theorem or_ex (l : List Int) (A : Option Addr) (c : Nat) (w : World) (hl : l.length ≤ maxLen) (h : Rd ic 1 w A l) :
  Calls Tryz.prog 146 #[.slice A l.length c] w (RE w (.int .i64 (firstI l))) := by
 unfold maxLen at hl
 go_enter Tryz.func146, Tryz.ntmps146
 go_wp2
 go_loop [8] (fun i => ∃ k : Nat, k ≤ l.length ∧ i = .int .i64 k ∧ Hid (firstI l = firstI (l.drop k))) (fun i => l.length - (intOf i).toNat)
 case atStart => exact ⟨0, Nat.zero_le _, rfl, rfl⟩
 case round =>
  obtain ⟨k, hk, rfl, H⟩ := hrel
  by_cases hlt : k < l.length
  ·obtain ⟨b, off, rfl, hb, hc⟩ := h.int hlt
   have hd := Lib.hid (firstI_drop hlt)
   go_wp2
   ·have hne : (l[k] != 0) = true := by assumption
    go_ret
    refine ⟨ret_int ?_, rfl⟩
    rw [H.out, hd.out, if_neg (by simpa using hne)]
   ·have hne : (l[k] != 0) = false := by assumption
    go_round
    case rel => exact ⟨k + 1, by omega, by go_num, by rw [H.out, hd.out, if_pos (by simpa using hne)]; rfl⟩
    case measure => simp [intOf]; omega
  ·have hkl : k = l.length := by omega
   go_wp2
   go_ret
   refine ⟨ret_int ?_, rfl⟩
   rw [H.out, hkl, List.drop_length]; rfl
def knotCmp (x y x' y' : Int) : Int := firstI [cmpI y y', cmpI x x']
theorem kcmp_ex (x y x' y' : Int) (w : World) : Calls Tryz.prog 145 #[.agg #[.int .i64 x, .int .i64 y], .agg #[.int .i64 x', .int .i64 y']] w (GV w (.int .i64 (knotCmp x y x' y'))) := by
 go_enter Tryz.func145, Tryz.ntmps145
 go_wp2
 refine wp_region_ords [0, 1, 2, 3, 5, 6, 7, 8] [(4, false)] [9, 10, 11, 12] (by kernel_rfl) (by kernel_rfl) (fun d _ _ _ _ h => by cases d <;> exact h) ?_
 simp only [List.map_cons, List.map_nil, List.getD_cons_zero, List.getD_cons_succ]
 repeat (go_big_quiet_step (fail))
 refine wpQuiet_nil ?_
 refine wpMid_run rfl (fun K hK => ?_)
 go_simp
 refine (cmp_ex _ _ _).mono ?_
 rintro e w1 ⟨rfl, rfl⟩
 refine hK _ _ (by (repeat first|exact J0|assumption|(apply J1;assumption)|apply J2|apply J3|apply J4)) ?_
 clear hK K
 refine wpMid_nil ?_
 go_wp2_with (first | (go_at_call 147; refine (cmp_ex _ _ _).mono ?_; rintro e w1 ⟨rfl, rfl⟩) | (go_at_call 146; go_must (refine (or_ex [cmpI y y', cmpI x x'] _ _ _ (by simp [maxLen]) (Rd.ints2 (by simp) (by go_simp) (by go_simp))).mono ?_); rintro e w1 ⟨rfl, rfl⟩))
 go_ret
 exact ⟨rfl, ((((Grw.refl w).alloc _).alloc _).drew).alloc _⟩
def barCmpM (x y s x' y' s' : Int) : Int := firstI [cmpI y y', cmpI x x', cmpI s s']
theorem bcmp_ex (x y s x' y' s' : Int) (w : World) : Calls Tryz.prog 136 #[.agg #[.int .i64 x, .int .i64 y, .int .i64 s], .agg #[.int .i64 x', .int .i64 y', .int .i64 s']] w (GV w (.int .i64 (barCmpM x y s x' y' s'))) := by
 go_enter Tryz.func136, Tryz.ntmps136
 go_wp2
 refine wp_region_ords [0, 1, 2, 3, 5, 6, 7, 8, 10, 11, 12, 13] [(4, false), (9, false)] [14, 15, 16, 17] (by kernel_rfl) (by kernel_rfl) (fun d _ _ _ _ h => by cases d <;> exact h) ?_
 simp only [List.map_cons, List.map_nil, List.getD_cons_zero, List.getD_cons_succ]
 repeat (go_big_quiet_step (fail))
 refine wpQuiet_nil ?_
 refine wpMid_run rfl (fun K hK => ?_)
 go_simp
 refine (cmp_ex _ _ _).mono ?_
 rintro e w1 ⟨rfl, rfl⟩
 refine hK _ _ (by (repeat first|exact J0|assumption|(apply J1;assumption)|apply J2|apply J3|apply J4)) ?_
 clear hK K
 refine wpMid_run rfl (fun K hK => ?_)
 go_simp
 refine (cmp_ex _ _ _).mono ?_
 rintro e w1 ⟨rfl, rfl⟩
 refine hK _ _ (by (repeat first|exact J0|assumption|(apply J1;assumption)|apply J2|apply J3|apply J4)) ?_
 clear hK K
 refine wpMid_nil ?_
 go_wp2_with (first | (go_at_call 147; refine (cmp_ex _ _ _).mono ?_; rintro e w1 ⟨rfl, rfl⟩) | (go_at_call 146; go_must (refine (or_ex [cmpI y y', cmpI x x', cmpI s s'] _ _ _ (by simp [maxLen]) (Rd.ints3 (by simp) (by go_simp) (by go_simp) (by go_simp))).mono ?_); rintro e w1 ⟨rfl, rfl⟩))
 go_ret
 exact ⟨rfl, ((((Grw.refl w).alloc _).alloc _).drew).alloc _⟩
end Go.Proofs.YtkkefahobjlagaaGreatDoor
namespace Go.Proofs.YtkkefahobjlagaaGreatDoor
open Go.Shelf
def lay_sortK_ren : Go.Shelf.Ren := ⟨fun | 6 => 144 | 15 => 177 | 14 => 178 | 28 => 202 | 29 => 203 | 20 => 204 | 21 => 205 | 22 => 206 | 23 => 207 | 24 => 208 | 25 => 209 | 26 => 210 | 27 => 211 | 46 => 229 | 47 => 225 | 48 => 226 | 49 => 230 | 50 => 231 | 57 => 244 | n => n, fun | 22 => 93 | 24 => 40 | 25 => 216 | 3 => 3 | 39 => 247 | 0 => 0 | 53 => 272 | 55 => 274 | 4 => 4 | 46 => 266 | 45 => 265 | 50 => 249 | 5 => 5 | 9 => 9 | 66 => 288 | 70 => 292 | 76 => 304 | 77 => 305 | n => n, fun | n => n⟩
theorem lay_sortK : Go.Proofs.SlLaysF0.n6 Tryz.prog lay_sortK_ren := {
 mixed := by kernel_rfl
 f6 := ⟨Tryz.f144.name, by decide, Tryz.func144.trans (congrArg some (by kernel_rfl))⟩
 f14 := ⟨Tryz.f178.name, by decide, Tryz.func178.trans (congrArg some (by kernel_rfl))⟩
 f15 := Tryz.func177.trans (congrArg some (by kernel_rfl))
 f20 := ⟨Tryz.f204.name, by decide, Tryz.func204.trans (congrArg some (by kernel_rfl))⟩
 f21 := ⟨Tryz.f205.name, by decide, Tryz.func205.trans (congrArg some (by kernel_rfl))⟩
 f22 := ⟨Tryz.f206.name, by decide, Tryz.func206.trans (congrArg some (by kernel_rfl))⟩
 f23 := ⟨Tryz.f207.name, by decide, Tryz.func207.trans (congrArg some (by kernel_rfl))⟩
 f24 := ⟨Tryz.f208.name, by decide, Tryz.func208.trans (congrArg some (by kernel_rfl))⟩
 f25 := ⟨Tryz.f209.name, by decide, Tryz.func209.trans (congrArg some (by kernel_rfl))⟩
 f26 := ⟨Tryz.f210.name, by decide, Tryz.func210.trans (congrArg some (by kernel_rfl))⟩
 f27 := ⟨Tryz.f211.name, by decide, Tryz.func211.trans (congrArg some (by kernel_rfl))⟩
 f28 := Tryz.func202.trans (congrArg some (by kernel_rfl))
 f29 := Tryz.func203.trans (congrArg some (by kernel_rfl))
 f46 := ⟨Tryz.f229.name, by decide, Tryz.func229.trans (congrArg some (by kernel_rfl))⟩
 f47 := Tryz.func225.trans (congrArg some (by kernel_rfl))
 f48 := Tryz.func226.trans (congrArg some (by kernel_rfl))
 f49 := ⟨Tryz.f230.name, by decide, Tryz.func230.trans (congrArg some (by kernel_rfl))⟩
 f50 := ⟨Tryz.f231.name, by decide, Tryz.func231.trans (congrArg some (by kernel_rfl))⟩
 f57 := ⟨Tryz.f244.name, by decide, Tryz.func244.trans (congrArg some (by kernel_rfl))⟩
 t0 := Tryz.underlying0
 a0 := Tryz.isAgg0
 z0 := Tryz.sizeOf0
 v0 := Tryz.zeroValue0
 t3 := Tryz.underlying3
 a3 := Tryz.isAgg3
 z3 := Tryz.sizeOf3
 v3 := Tryz.zeroValue3
 t4 := Tryz.underlying4
 a4 := Tryz.isAgg4
 z4 := Tryz.sizeOf4
 v4 := Tryz.zeroValue4
 t5 := Tryz.underlying5
 a5 := Tryz.isAgg5
 z5 := Tryz.sizeOf5
 v5 := Tryz.zeroValue5
 t9 := Tryz.underlying9
 a9 := Tryz.isAgg9
 z9 := Tryz.sizeOf9
 v9 := Tryz.zeroValue9
 t22 := Tryz.underlying93
 a22 := Tryz.isAgg93
 z22 := Tryz.sizeOf93
 v22 := Tryz.zeroValue93
 t25 := Tryz.underlying216
 a25 := Tryz.isAgg216
 z25 := Tryz.sizeOf216
 v25 := Tryz.zeroValue216
 t39 := Tryz.underlying247
 a39 := Tryz.isAgg247
 z39 := Tryz.sizeOf247
 v39 := Tryz.zeroValue247
 t45 := Tryz.underlying265
 a45 := Tryz.isAgg265
 z45 := Tryz.sizeOf265
 v45 := Tryz.zeroValue265
 t46 := Tryz.underlying266
 a46 := Tryz.isAgg266
 z46 := Tryz.sizeOf266
 v46 := Tryz.zeroValue266
 t50 := Tryz.underlying249
 a50 := Tryz.isAgg249
 z50 := Tryz.sizeOf249
 v50 := Tryz.zeroValue249
 t53 := Tryz.underlying272
 a53 := Tryz.isAgg272
 z53 := Tryz.sizeOf272
 v53 := Tryz.zeroValue272
 t55 := Tryz.underlying274
 a55 := Tryz.isAgg274
 z55 := Tryz.sizeOf274
 v55 := Tryz.zeroValue274
 t66 := Tryz.underlying288
 a66 := Tryz.isAgg288
 z66 := Tryz.sizeOf288
 v66 := Tryz.zeroValue288
 t70 := Tryz.underlying292
 a70 := Tryz.isAgg292
 z70 := Tryz.sizeOf292
 v70 := Tryz.zeroValue292
 t76 := Tryz.underlying304
 a76 := Tryz.isAgg304
 z76 := Tryz.sizeOf304
 v76 := Tryz.zeroValue304
 t77 := Tryz.underlying305
 a77 := Tryz.isAgg305
 z77 := Tryz.sizeOf305
 v77 := Tryz.zeroValue305 }
def lay_sortB_ren : Go.Shelf.Ren := ⟨fun | 6 => 143 | 15 => 177 | 14 => 176 | 28 => 202 | 29 => 203 | 20 => 194 | 21 => 195 | 22 => 196 | 23 => 197 | 24 => 198 | 25 => 199 | 26 => 200 | 27 => 201 | 46 => 224 | 47 => 225 | 48 => 226 | 49 => 227 | 50 => 228 | 57 => 243 | n => n, fun | 22 => 36 | 24 => 77 | 25 => 206 | 3 => 3 | 39 => 247 | 0 => 0 | 53 => 272 | 55 => 274 | 4 => 4 | 46 => 266 | 45 => 265 | 50 => 249 | 5 => 5 | 9 => 9 | 66 => 288 | 70 => 292 | 76 => 304 | 77 => 305 | n => n, fun | n => n⟩
theorem lay_sortB : Go.Proofs.SlLaysF0.n6 Tryz.prog lay_sortB_ren := {
 mixed := by kernel_rfl
 f6 := ⟨Tryz.f143.name, by decide, Tryz.func143.trans (congrArg some (by kernel_rfl))⟩
 f14 := ⟨Tryz.f176.name, by decide, Tryz.func176.trans (congrArg some (by kernel_rfl))⟩
 f15 := Tryz.func177.trans (congrArg some (by kernel_rfl))
 f20 := ⟨Tryz.f194.name, by decide, Tryz.func194.trans (congrArg some (by kernel_rfl))⟩
 f21 := ⟨Tryz.f195.name, by decide, Tryz.func195.trans (congrArg some (by kernel_rfl))⟩
 f22 := ⟨Tryz.f196.name, by decide, Tryz.func196.trans (congrArg some (by kernel_rfl))⟩
 f23 := ⟨Tryz.f197.name, by decide, Tryz.func197.trans (congrArg some (by kernel_rfl))⟩
 f24 := ⟨Tryz.f198.name, by decide, Tryz.func198.trans (congrArg some (by kernel_rfl))⟩
 f25 := ⟨Tryz.f199.name, by decide, Tryz.func199.trans (congrArg some (by kernel_rfl))⟩
 f26 := ⟨Tryz.f200.name, by decide, Tryz.func200.trans (congrArg some (by kernel_rfl))⟩
 f27 := ⟨Tryz.f201.name, by decide, Tryz.func201.trans (congrArg some (by kernel_rfl))⟩
 f28 := Tryz.func202.trans (congrArg some (by kernel_rfl))
 f29 := Tryz.func203.trans (congrArg some (by kernel_rfl))
 f46 := ⟨Tryz.f224.name, by decide, Tryz.func224.trans (congrArg some (by kernel_rfl))⟩
 f47 := Tryz.func225.trans (congrArg some (by kernel_rfl))
 f48 := Tryz.func226.trans (congrArg some (by kernel_rfl))
 f49 := ⟨Tryz.f227.name, by decide, Tryz.func227.trans (congrArg some (by kernel_rfl))⟩
 f50 := ⟨Tryz.f228.name, by decide, Tryz.func228.trans (congrArg some (by kernel_rfl))⟩
 f57 := ⟨Tryz.f243.name, by decide, Tryz.func243.trans (congrArg some (by kernel_rfl))⟩
 t0 := Tryz.underlying0
 a0 := Tryz.isAgg0
 z0 := Tryz.sizeOf0
 v0 := Tryz.zeroValue0
 t3 := Tryz.underlying3
 a3 := Tryz.isAgg3
 z3 := Tryz.sizeOf3
 v3 := Tryz.zeroValue3
 t4 := Tryz.underlying4
 a4 := Tryz.isAgg4
 z4 := Tryz.sizeOf4
 v4 := Tryz.zeroValue4
 t5 := Tryz.underlying5
 a5 := Tryz.isAgg5
 z5 := Tryz.sizeOf5
 v5 := Tryz.zeroValue5
 t9 := Tryz.underlying9
 a9 := Tryz.isAgg9
 z9 := Tryz.sizeOf9
 v9 := Tryz.zeroValue9
 t22 := Tryz.underlying36
 a22 := Tryz.isAgg36
 z22 := Tryz.sizeOf36
 v22 := Tryz.zeroValue36
 t25 := Tryz.underlying206
 a25 := Tryz.isAgg206
 z25 := Tryz.sizeOf206
 v25 := Tryz.zeroValue206
 t39 := Tryz.underlying247
 a39 := Tryz.isAgg247
 z39 := Tryz.sizeOf247
 v39 := Tryz.zeroValue247
 t45 := Tryz.underlying265
 a45 := Tryz.isAgg265
 z45 := Tryz.sizeOf265
 v45 := Tryz.zeroValue265
 t46 := Tryz.underlying266
 a46 := Tryz.isAgg266
 z46 := Tryz.sizeOf266
 v46 := Tryz.zeroValue266
 t50 := Tryz.underlying249
 a50 := Tryz.isAgg249
 z50 := Tryz.sizeOf249
 v50 := Tryz.zeroValue249
 t53 := Tryz.underlying272
 a53 := Tryz.isAgg272
 z53 := Tryz.sizeOf272
 v53 := Tryz.zeroValue272
 t55 := Tryz.underlying274
 a55 := Tryz.isAgg274
 z55 := Tryz.sizeOf274
 v55 := Tryz.zeroValue274
 t66 := Tryz.underlying288
 a66 := Tryz.isAgg288
 z66 := Tryz.sizeOf288
 v66 := Tryz.zeroValue288
 t70 := Tryz.underlying292
 a70 := Tryz.isAgg292
 z70 := Tryz.sizeOf292
 v70 := Tryz.zeroValue292
 t76 := Tryz.underlying304
 a76 := Tryz.isAgg304
 z76 := Tryz.sizeOf304
 v76 := Tryz.zeroValue304
 t77 := Tryz.underlying305
 a77 := Tryz.isAgg305
 z77 := Tryz.sizeOf305
 v77 := Tryz.zeroValue305 }
def lay_cloneB_ren : Go.Shelf.Ren := ⟨fun | 41 => 90 | n => n, fun | 22 => 36 | 23 => 77 | 4 => 4 | n => n, fun | n => n⟩
def lay_cloneY_ren : Go.Shelf.Ren := ⟨fun | 41 => 174 | n => n, fun | 22 => 160 | 23 => 5 | 4 => 4 | n => n, fun | n => n⟩
theorem lay_cloneY : Go.Proofs.SlLaysE0.n41 Tryz.prog lay_cloneY_ren := {
 mixed := by kernel_rfl
 f41 := ⟨Tryz.f174.name, by decide, Tryz.func174.trans (congrArg some (by kernel_rfl))⟩
 t4 := Tryz.underlying4
 a4 := Tryz.isAgg4
 z4 := Tryz.sizeOf4
 v4 := Tryz.zeroValue4
 t22 := Tryz.underlying160
 a22 := Tryz.isAgg160
 z22 := Tryz.sizeOf160
 v22 := Tryz.zeroValue160 }
def lay_reverseE_ren : Go.Shelf.Ren := ⟨fun | 35 => 173 | n => n, fun | 22 => 28 | 23 => 107 | 3 => 3 | 4 => 4 | 0 => 0 | n => n, fun | n => n⟩
theorem lay_reverseE : Go.Proofs.SlLaysE0.n35 Tryz.prog lay_reverseE_ren := {
 mixed := by kernel_rfl
 f35 := ⟨Tryz.f173.name, by decide, Tryz.func173.trans (congrArg some (by kernel_rfl))⟩
 t0 := Tryz.underlying0
 a0 := Tryz.isAgg0
 z0 := Tryz.sizeOf0
 v0 := Tryz.zeroValue0
 t3 := Tryz.underlying3
 a3 := Tryz.isAgg3
 z3 := Tryz.sizeOf3
 v3 := Tryz.zeroValue3
 t4 := Tryz.underlying4
 a4 := Tryz.isAgg4
 z4 := Tryz.sizeOf4
 v4 := Tryz.zeroValue4
 t22 := Tryz.underlying28
 a22 := Tryz.isAgg28
 z22 := Tryz.sizeOf28
 v22 := Tryz.zeroValue28 }
def lay_reverseY_ren : Go.Shelf.Ren := ⟨fun | 35 => 175 | n => n, fun | 22 => 160 | 23 => 5 | 3 => 3 | 4 => 4 | 0 => 0 | n => n, fun | n => n⟩
theorem lay_reverseY : Go.Proofs.SlLaysE.n35 Tryz.prog lay_reverseY_ren := {
 mixed := by kernel_rfl
 f35 := ⟨Tryz.f175.name, by decide, Tryz.func175.trans (congrArg some (by kernel_rfl))⟩
 t0 := Tryz.underlying0
 a0 := Tryz.isAgg0
 z0 := Tryz.sizeOf0
 v0 := Tryz.zeroValue0
 t3 := Tryz.underlying3
 a3 := Tryz.isAgg3
 z3 := Tryz.sizeOf3
 v3 := Tryz.zeroValue3
 t4 := Tryz.underlying4
 a4 := Tryz.isAgg4
 z4 := Tryz.sizeOf4
 v4 := Tryz.zeroValue4
 t22 := Tryz.underlying160
 a22 := Tryz.isAgg160
 z22 := Tryz.sizeOf160
 v22 := Tryz.zeroValue160
 a23 := Tryz.isAgg5
 z23 := Tryz.sizeOf5 }
end Go.Proofs.YtkkefahobjlagaaGreatDoor
namespace Go.Proofs.YtkkefahobjlagaaGreatDoor
open Go.RowKit Go.Sort Go.Shelf
set_option maxHeartbeats 2000000
set_option maxRecDepth 100000
theorem flat_len {α : Type} {enc : α → List Value} {sz : Nat} (hk : ∀ x, (enc x).length = sz) : ∀ l : List α, (l.flatMap enc).length = l.length * sz
 | [] => by simp
 | x :: r => by rw [List.flatMap_cons, List.length_append, hk, flat_len hk r, List.length_cons, Nat.succ_mul]; omega
section
variable {α : Type} [Inhabited α] {enc : α → List Value} {sz : Nat} {e : TypeId} {w : World}
theorem flatK_get (hk : ∀ x, (enc x).length = sz) {l : List α} {t : Nat} (ht : t < l.length * sz) : (flatK enc sz l.toArray)[t]! = (l.flatMap enc)[t]! := by
 have hpos : 0 < sz := by
  rcases Nat.eq_zero_or_pos sz with h | h
  ·rw [h] at ht; simp at ht
  ·exact h
 have hd : t / sz < l.length := Nat.div_lt_of_lt_mul (by rw [Nat.mul_comm]; exact ht)
 have hm : t % sz < (enc l[t / sz]).length := by rw [hk]; exact Nat.mod_lt _ hpos
 have h := flat_get hk l (t / sz) l[t / sz] (t % sz) _ (List.getElem?_eq_getElem hd) (List.getElem?_eq_getElem hm)
 have hdm : t / sz * sz + t % sz = t := by rw [Nat.mul_comm]; exact Nat.div_add_mod t sz
 rw [hdm] at h
 rw [get_flatK _ _ _ _ (by simpa using ht), getElem!_pos l.toArray (t / sz) (by simpa using hd)]
 simp only [List.getElem_toArray]
 simp only [List.getElem!_eq_getElem?_getD, h, List.getElem?_eq_getElem hm]
theorem own_holds (hk : ∀ x, (enc x).length = sz) {base g cap : Nat} {l : List α} (h : Own enc sz base e w (.slice (some ⟨g, 0, none⟩) l.length cap) l) : HoldsK enc sz w g 0 l.toArray ∧ g < w.heap.size := by
 obtain ⟨hl, hc⟩ := h
 rcases hc with ⟨hv, _⟩ | ⟨g', cap', cur, hv, hg, hh, hnc, hcm, hcs, htk⟩
 ·cases hv
 ·obtain ⟨rfl, rfl⟩ : g = g' ∧ cap = cap' := by simpa using hv
  have hlt := (Array.getElem?_eq_some_iff.1 hh).1
  refine ⟨fun j hj => ?_, hlt⟩
  have hj' : j < l.length * sz := by simpa using hj
  refine ⟨?_, by simp [World.frozen?, hh]⟩
  rw [Nat.zero_add, cell_of_row w g j cur e (0, 0) hh, flatK_get hk hj', ← htk]
  have hj2 : j < cur.size := by rw [hcs]; exact Nat.lt_of_lt_of_le hj' (Nat.mul_le_mul_right _ hnc)
  simp [List.getElem!_eq_getElem?_getD, hj', hj2]
theorem own_sorted (hk : ∀ x, (enc x).length = sz) {base g cap : Nat} {l l' : List α} (h : Own enc sz base e w (.slice (some ⟨g, 0, none⟩) l.length cap) l) (hll : l'.length = l.length) (n : Nat) (os : Array Obj) :
  Own enc sz base e (sortWorldK enc sz w g 0 n l'.toArray os) (.slice (some ⟨g, 0, none⟩) l.length cap) l' ∧ w.grownBy (sortWorldK enc sz w g 0 n l'.toArray os) (some g) := by
 obtain ⟨hl, hc⟩ := h
 rcases hc with ⟨hv, _⟩ | ⟨g', cap', cur, hv, hg, hh, hnc, hcm, hcs, htk⟩
 ·cases hv
 ·obtain ⟨rfl, rfl⟩ : g = g' ∧ cap = cap' := by simpa using hv
  have hlt := (Array.getElem?_eq_some_iff.1 hh).1
  have hheap : ∀ k, k < w.heap.size → (sortWorldK enc sz w g 0 n l'.toArray os).heap[k]? = if g = k then some (.cells (putCells id 0 (flatK enc sz l'.toArray) cur) e (0, 0)) else w.heap[k]? := by
   intro k hk'
   have e1 : (sortWorldK enc sz w g 0 n l'.toArray os).heap[k]? = (mapBlock w g (putCells id 0 (flatK enc sz l'.toArray))).heap[k]? := by
    show (_ ++ os)[k]? = _
    rw [Array.getElem?_append_left (by simpa [putRowK, putRow, mapBlock, Sort.ahead] using hk')]
    rfl
   rw [e1]
   simp only [mapBlock, Array.getElem?_modify]
   by_cases hgk : g = k
   ·subst hgk
    simp [hh, onCells]
   ·simp [hgk]
  refine ⟨⟨by rw [flat_len hk, hll], .inr ⟨g, cap, putCells id 0 (flatK enc sz l'.toArray) cur, by rw [hll], hg, by rw [hheap g hlt, if_pos rfl], by omega, hcm, by simpa [putCells] using hcs, ?_⟩⟩, ?_⟩
  ·apply List.ext_getElem?
   intro t
   rw [List.getElem?_take]
   by_cases ht : t < l'.length * sz
   ·have ht2 : t < cur.size := by rw [hcs]; exact Nat.lt_of_lt_of_le ht (Nat.mul_le_mul_right _ (by omega))
    have h3 : t < (l'.flatMap enc).length := by rw [flat_len hk]; exact ht
    have h4 := flatK_get hk ht
    rw [List.getElem!_eq_getElem?_getD, List.getElem?_eq_getElem h3] at h4
    simp only [Option.getD_some] at h4
    rw [if_pos ht, List.getElem?_eq_getElem h3]
    simp only [putCells, Array.toList_mapIdx, List.getElem?_mapIdx, Array.getElem?_toList, Array.getElem?_eq_getElem ht2, Option.map_some, Nat.zero_le, true_and, Nat.zero_add, size_flatK, List.size_toArray, ht, if_true, Nat.sub_zero, id_eq]
    rw [h4]
   ·rw [if_neg ht, List.getElem?_eq_none (by rw [flat_len hk]; omega)]
  ·refine ⟨rfl, rfl, rfl, ?_, fun k hk' hne => ?_⟩
   ·show w.heap.size ≤ (_ ++ os).size
    rw [Array.size_append]
    simp [putRowK, putRow, mapBlock, Sort.ahead]
   ·rw [hheap k hk', if_neg (fun e => hne (by rw [e]))]
end
def cfK (a b : Knot) : Int := knotCmp a.1 a.2 b.1 b.2
def cfB (a b : Bar) : Int := barCmpM a.1 a.2.1 a.2.2 b.1 b.2.1 b.2.2
theorem ltK_iff (a b : Knot) : ltOf cfK a b = true ↔ kltP a b := by
 unfold ltOf cfK knotCmp kltP cmpI firstI firstI firstI
 simp only [decide_eq_true_eq]
 repeat' split
 all_goals omega
theorem ltB_iff (a b : Bar) : ltOf cfB a b = true ↔ bltP a b := by
 rw [bltP_iff]
 unfold ltOf cfB barCmpM cmpI firstI firstI firstI firstI
 simp only [decide_eq_true_eq]
 repeat' split
 all_goals omega
theorem bltP_tri {a b : Bar} (h : ¬ bltP a b) (hne : a ≠ b) : bltP b a := by
 rw [bltP_iff] at h ⊢
 have : ¬ (a.1 = b.1 ∧ a.2.1 = b.2.1 ∧ a.2.2 = b.2.2) := fun ⟨h1, h2, h3⟩ => hne (Prod.ext h1 (Prod.ext h2 h3))
 omega
theorem swo_of {α : Type} {lt : α → α → Bool} {R : α → α → Prop} (hi : ∀ a b, lt a b = true ↔ R a b) (irr : ∀ a, ¬ R a a) (tr : ∀ a b c, R a b → R b c → R a c) (tri : ∀ a b, ¬ R a b → a ≠ b → R b a) : SWO lt where
 irrefl x := by
  have := irr x
  rw [← hi] at this
  simpa using this
 trans x y z h1 h2 := (hi _ _).2 (tr _ _ _ ((hi _ _).1 h1) ((hi _ _).1 h2))
 ntrans x y z h1 h2 := by
  have g1 : ¬ R x y := fun h => by rw [(hi _ _).2 h] at h1; cases h1
  have g2 : ¬ R y z := fun h => by rw [(hi _ _).2 h] at h2; cases h2
  have : ¬ R x z := fun h => by
   by_cases e : x = y
   ·subst e; exact g2 h
   ·by_cases e' : y = z
    ·subst e'; exact g1 h
    ·have r1 := tri _ _ g1 e
     have r2 := tri _ _ g2 e'
     exact irr x (tr _ _ _ h (tr _ _ _ r2 r1))
  cases hh : lt x z
  ·rfl
  ·exact absurd ((hi _ _).1 hh) this
theorem swoK : SWO (ltOf cfK) := swo_of ltK_iff kltP_irr kltP_tr fun _ _ => kltP_tri
theorem swoB : SWO (ltOf cfB) := swo_of ltB_iff bltP_irrefl (fun _ _ _ => bltP_trans) fun _ _ => bltP_tri
theorem total_of {α : Type} [DecidableEq α] {lt : α → α → Bool} {R : α → α → Prop} (hi : ∀ a b, lt a b = true ↔ R a b) (tri : ∀ a b, ¬ R a b → a ≠ b → R b a) (x y : α) (h1 : lt x y = false) (h2 : lt y x = false) : x = y := by
 by_cases e : x = y
 ·exact e
 ·have g1 : ¬ R x y := fun h => by rw [(hi _ _).2 h] at h1; cases h1
  have := (hi _ _).2 (tri _ _ g1 e)
  rw [this] at h2
  cases h2
def srtK (l : List Knot) : List Knot := l.mergeSort fun x y => !(ltOf cfK) y x
def srtB (l : List Bar) : List Bar := l.mergeSort fun x y => !(ltOf cfB) y x
theorem srtK_mem (l : List Knot) (x : Knot) : x ∈ srtK l ↔ x ∈ l := List.mem_mergeSort
theorem srtB_mem (l : List Bar) (x : Bar) : x ∈ srtB l ↔ x ∈ l := List.mem_mergeSort
theorem srtK_length (l : List Knot) : (srtK l).length = l.length := List.length_mergeSort l
theorem srtB_length (l : List Bar) : (srtB l).length = l.length := List.length_mergeSort l
theorem sorted_of {α : Type} {lt : α → α → Bool} {R : α → α → Prop} (hi : ∀ a b, lt a b = true ↔ R a b) (hS : SWO lt) (tri : ∀ a b, ¬ R a b → a ≠ b → R b a) (l : List α) :
  (l.mergeSort fun x y => !lt y x).Pairwise fun a b => a = b ∨ R a b := by
 have h := List.pairwise_mergeSort (le := fun x y => !lt y x) (fun a b c h1 h2 => by
  simp only [Bool.not_eq_eq_eq_not, Bool.not_true] at h1 h2 ⊢
  exact hS.ntrans _ _ _ h2 h1) (fun a b => by
  cases h1 : lt b a
  ·simp
  ·cases h2 : lt a b
   ·simp
   ·exact absurd (hS.trans _ _ _ h1 h2) (by rw [hS.irrefl]; simp)) l
 refine h.imp fun {a b} hab => ?_
 have g : ¬ R b a := fun hr => by rw [(hi _ _).2 hr] at hab; simp at hab
 by_cases e : a = b
 ·exact .inl e
 ·exact .inr (tri _ _ g (Ne.symm e))
theorem srtB_sorted {l : List Bar} (hn : l.Nodup) : (srtB l).Pairwise bltP := by
 have h1 := sorted_of ltB_iff swoB (fun _ _ => bltP_tri) l
 have h2 : (srtB l).Nodup := (List.mergeSort_perm l _).nodup_iff.2 hn
 exact (h1.and h2).imp fun ⟨h, hne⟩ => h.resolve_left hne
theorem kcmpLays (blk off size : Nat) (w : World) : CmpLays Tryz.prog 145 #[] kc 2 cfK blk off size w := fun m os dk _ x y =>
 (kcmp_ex x.1 x.2 y.1 y.2 (sortWorldK kc 2 w blk off m dk os)).mono fun _ _ ⟨he, q, os', hw⟩ => ⟨he, q, os', hw⟩
theorem bcmpLays (blk off size : Nat) (w : World) : CmpLays Tryz.prog 136 #[] bc 3 cfB blk off size w := fun m os dk _ x y =>
 (bcmp_ex x.1 x.2.1 x.2.2 y.1 y.2.1 y.2.2 (sortWorldK bc 3 w blk off m dk os)).mono fun _ _ ⟨he, q, os', hw⟩ => ⟨he, q, os', hw⟩
theorem sortK_any {v : Value} {base : Nat} (l : List Knot) (w : World) (h : OwK base w v l) (hlen : l.length ≤ 1000000) :
  Calls Tryz.prog 144 #[v, .func (.func 145) #[] #[]] w fun e w' => e = .returned (.tuple #[]) ∧ OwK base w' v (srtK l) ∧ w.grownBy w' v.ownBlock := by
 rcases h.2 with ⟨rfl, hn⟩ | ⟨g, cap, cur, rfl, _⟩
 ·obtain rfl : l = [] := List.eq_nil_of_length_eq_zero hn
  exact (AnyF.slices_SortFunc_none lay_sortK none 0 _ w).mono fun e w' ⟨he, hw⟩ => ⟨he, by subst hw; simpa [srtK] using h, by subst hw; exact World.grownBy.refl _ _⟩
 ·obtain ⟨hH, hg⟩ := own_holds kc_len h
  have hcon := AnyQ.slices_SortFunc_total lay_sortK 2 Tryz.isAgg40 Tryz.sizeOf40 kc kc_len (fun x u hu => kc_one x u hu) cfK swoK 145 #[] g 0 cap l.toArray w
   (enters_of Tryz.func145 (by kernel_rfl) rfl) (kcmpLays g 0 _ w) hH hg (by simp; omega) (total_of ltK_iff fun _ _ => kltP_tri)
  refine Calls.mono (R := fun e w' => e = .returned (.tuple #[]) ∧ ∃ n os, w' = sortWorldK kc 2 w g 0 n (srtK l).toArray os) ?_ ?_
  ·exact hcon
  ·rintro e w' ⟨he, n, os, rfl⟩
   obtain ⟨h1, h2⟩ := own_sorted kc_len h (srtK_length l) n os
   exact ⟨he, h1, h2⟩
theorem sortB_any {v : Value} {base : Nat} (l : List Bar) (w : World) (h : OwB base w v l) (hlen : l.length ≤ 1000000) :
  Calls Tryz.prog 143 #[v, .func (.func 136) #[] #[]] w fun e w' => e = .returned (.tuple #[]) ∧ OwB base w' v (srtB l) ∧ w.grownBy w' v.ownBlock := by
 rcases h.2 with ⟨rfl, hn⟩ | ⟨g, cap, cur, rfl, _⟩
 ·obtain rfl : l = [] := List.eq_nil_of_length_eq_zero hn
  exact (AnyF.slices_SortFunc_none lay_sortB none 0 _ w).mono fun e w' ⟨he, hw⟩ => ⟨he, by subst hw; simpa [srtB] using h, by subst hw; exact World.grownBy.refl _ _⟩
 ·obtain ⟨hH, hg⟩ := own_holds bc_len h
  have hcon := AnyQ.slices_SortFunc_total lay_sortB 3 Tryz.isAgg77 Tryz.sizeOf77 bc bc_len (fun x u hu => bc_one x u hu) cfB swoB 136 #[] g 0 cap l.toArray w
   (enters_of Tryz.func136 (by kernel_rfl) rfl) (bcmpLays g 0 _ w) hH hg (by simp; omega) (total_of ltB_iff fun _ _ => bltP_tri)
  refine Calls.mono (R := fun e w' => e = .returned (.tuple #[]) ∧ ∃ n os, w' = sortWorldK bc 3 w g 0 n (srtB l).toArray os) ?_ ?_
  ·exact hcon
  ·rintro e w' ⟨he, n, os, rfl⟩
   obtain ⟨h1, h2⟩ := own_sorted bc_len h (srtB_length l) n os
   exact ⟨he, h1, h2⟩
end Go.Proofs.YtkkefahobjlagaaGreatDoor

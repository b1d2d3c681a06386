/- The checks of chapter 1, walked: each call of the program's and of the reference's checks returns what the plain function of its name says. Conditions: a list no longer than maxLen. -/
import Derived.Test.YtpcgeihemkhkjaaGreatDoorProg
import Derived.Test.YtpcgeihemkhkjaaGreatDoorS01
import Derived.WalkSpells
namespace Go.Proofs.YtpcgeihemkhkjaaGreatDoor
open Go.RowKit
set_option maxHeartbeats 400000
set_option maxRecDepth 100000
def farB (n : Int) : Bool := decide (n < -100000) || decide (100000 < n)
def Z15 (b : Bool) (n : Int) : Int := if b then n else 0
def Z16 (n lo hi : Int) : Int := Z15 (decide (n < lo) || decide (hi < n)) 3
def Z17 : List Int → Int
 | [] => 0
 | x :: r => if x = 0 then Z17 r else x
theorem Z18 {l : List Int} {k : Nat} (h : k < l.length) : Z17 (l.drop k) = if l[k] = 0 then Z17 (l.drop (k + 1)) else l[k] := by
 rw [List.drop_eq_getElem_cons h]; rfl
def Z19 (x y : Int) : Int := Z17 [Z16 x (-100000) 100000, Z16 y (-100000) 100000]
def Z1a (x y : Int) : Int := if farB x || farB y then 3 else if (x + y) % 2 = 0 then 0 else 14
theorem Z1b (z : Int) : ((BitVec.ofInt 64 z).toNat : Int) = z % 18446744073709551616 := by
 rw [BitVec.toNat_ofInt]
 have e : ((2 ^ 64 : Nat) : Int) = 18446744073709551616 := by decide
 rw [e, Int.toNat_of_nonneg (Int.emod_nonneg _ (by decide))]
theorem Z1c (a b : Nat) : (a ^^^ b) % 2 = (a + b) % 2 := by
 have h : (a ^^^ b) % 2 ^ 1 = (a % 2 ^ 1) ^^^ (b % 2 ^ 1) := Nat.xor_mod_two_pow
 rw [Nat.pow_one] at h
 rw [h]
 rcases Nat.mod_two_eq_zero_or_one a with h1 | h1 <;> rcases Nat.mod_two_eq_zero_or_one b with h2 | h2 <;> rw [h1, h2, Nat.add_mod, h1, h2] <;> decide
theorem Z1d (x y : Int) : bits .xor .i64 x y = IntKind.i64.wrap (((BitVec.ofInt 64 x).toNat ^^^ (BitVec.ofInt 64 y).toNat : Nat) : Int) :=
 congrArg (fun z : Nat => IntKind.i64.wrap (z : Int)) (BitVec.toNat_xor (BitVec.ofInt 64 x) (BitVec.ofInt 64 y))
theorem Z1e (x : Int) : bits .and .i64 x 1 = IntKind.i64.wrap (((BitVec.ofInt 64 x).toNat % 2 : Nat) : Int) :=
 (congrArg (fun z : Nat => IntKind.i64.wrap (z : Int)) (BitVec.toNat_and (BitVec.ofInt 64 x) (BitVec.ofInt 64 1))).trans (by
  rw [show (BitVec.ofInt 64 1).toNat = 1 from rfl, Nat.and_one_is_mod])
theorem Z1f (z : Int) : (z % 18446744073709551616) % 2 = z % 2 := Int.emod_emod_of_dvd z (by decide)
theorem Z1g (n : Nat) (h : n < 2) : IntKind.i64.wrap (n : Int) = n := by
 rcases (by omega : n = 0 ∨ n = 1) with rfl | rfl <;> decide
theorem Z1h (z : Int) : IntKind.i64.wrap z % 2 = z % 2 := by
 rw [IntKind.wrap_i64, Int.sub_emod, Z1f, Int.add_emod]
 simp
theorem Z1i (x y : Int) : bits .and .i64 (bits .xor .i64 x y) 1 = (x + y) % 2 := by
 rw [Z1e, Z1d, Z1g _ (Nat.mod_lt _ (Nat.zero_lt_succ 1)), Int.natCast_emod, Z1b]
 show _ % 18446744073709551616 % 2 = _
 rw [Z1f, Z1h]
 have h := Z1c (BitVec.ofInt 64 x).toNat (BitVec.ofInt 64 y).toNat
 have h2 : (((BitVec.ofInt 64 x).toNat ^^^ (BitVec.ofInt 64 y).toNat : Nat) : Int) % 2 = (((BitVec.ofInt 64 x).toNat : Int) + ((BitVec.ofInt 64 y).toNat : Int)) % 2 := by
  have := congrArg (Nat.cast : Nat → Int) h
  simpa using this
 rw [h2, Z1b, Z1b, Int.add_emod, Z1f, Z1f, ← Int.add_emod]
theorem Z1j (n : Int) (w : World) : Calls Tryz.prog 146 #[.int .i64 n] w (RV w (.bool (farB n))) := by
 go_enter Tryz.func146, Tryz.ntmps146
 go_wp2
 all_goals go_ret
 ·exact ⟨rfl, Z03⟩
 ·exact ⟨Z0c (by simp [farB, *]), Z03⟩
theorem Z1k (b : Bool) (n : Int) (w : World) : Calls Tryz.prog 102 #[.bool b, .int .i64 n] w (RV w (.int .i64 (Z15 b n))) := by
 cases b
 all_goals
  go_enter Tryz.func102, Tryz.ntmps102
  go_wp2; go_ret; exact ⟨rfl, Z03⟩
theorem Z1l (n lo hi : Int) (w : World) : Calls Tryz.prog 101 #[.int .i64 n, .int .i64 lo, .int .i64 hi] w (RV w (.int .i64 (Z16 n lo hi))) := by
 go_enter Tryz.func101, Tryz.ntmps101
 go_wp2_with (go_at_call 102; refine (Z1k _ _ _).mono ?_; rintro e w1 ⟨rfl, hb1⟩)
 all_goals go_ret
 ·exact ⟨rfl, hb1⟩
 ·exact ⟨Z0b (by simp [Z16, *]), hb1⟩
def ic (n : Int) : List Value := [.int .i64 n]
theorem Rd.int {w : World} {A : Option Addr} {l : List Int} (h : Rd ic 1 w A l) {k : Nat} (hk : k < l.length) : ∃ b off, A = some ⟨b, off, none⟩ ∧ b < w.heap.size ∧ w.cell? ⟨b, off + k, none⟩ = some (.int .i64 l[k]) := by
 obtain ⟨b, off, e, hlt, hc⟩ := h k l[k] (List.getElem?_eq_getElem hk)
 exact ⟨b, off, e, hlt, by simpa using hc 0 _ rfl⟩
theorem Rd.ints {w : World} {b : Nat} {l : List Int} (hb : b < w.heap.size) (h : ∀ i x, l[i]? = some x → w.cell? ⟨b, i, none⟩ = some (.int .i64 x)) : Rd ic 1 w (some ⟨b, 0, none⟩) l := by
 intro i x hi
 refine ⟨b, 0, rfl, hb, fun j u hu => ?_⟩
 match j, hu with
 | 0, hu =>
  obtain rfl : Value.int .i64 x = u := by simpa [ic] using hu
  simpa using h i x hi
theorem Rd.ints2 {w : World} {b : Nat} {n m : Int} (hb : b < w.heap.size) (h0 : w.cell? ⟨b, 0, none⟩ = some (.int .i64 n)) (h1 : w.cell? ⟨b, 1, none⟩ = some (.int .i64 m)) : Rd ic 1 w (some ⟨b, 0, none⟩) [n, m] :=
  Rd.ints hb fun i x hi => by
    match i, hi with
    | 0, hi => obtain rfl : n = x := by simpa using hi
               exact h0
    | 1, hi => obtain rfl : m = x := by simpa using hi
               exact h1
theorem Rd.ints3 {w : World} {b : Nat} {n m p : Int} (hb : b < w.heap.size) (h0 : w.cell? ⟨b, 0, none⟩ = some (.int .i64 n)) (h1 : w.cell? ⟨b, 1, none⟩ = some (.int .i64 m)) (h2 : w.cell? ⟨b, 2, none⟩ = some (.int .i64 p)) : Rd ic 1 w (some ⟨b, 0, none⟩) [n, m, p] :=
  Rd.ints hb fun i x hi => by
    match i, hi with
    | 0, hi => obtain rfl : n = x := by simpa using hi
               exact h0
    | 1, hi => obtain rfl : m = x := by simpa using hi
               exact h1
    | 2, hi => obtain rfl : p = x := by simpa using hi
               exact h2
theorem Z1m (l : List Int) (A : Option Addr) (c : Nat) (w : World) (hl : l.length ≤ maxLen) (h : Rd ic 1 w A l) :
  Calls Tryz.prog 99 #[.slice A l.length c] w (RV w (.int .i64 (Z17 l))) := by
 unfold maxLen at hl
 go_enter Tryz.func99, Tryz.ntmps99
 go_wp2
 go_loop [7] (fun i => ∃ k : Nat, k ≤ l.length ∧ i = .int .i64 k ∧ Hid (Z17 l = Z17 (l.drop k))) (fun i => l.length - (intOf i).toNat)
 case atStart => exact ⟨0, Nat.zero_le _, rfl, rfl⟩
 case round =>
  obtain ⟨k, hk, rfl, H⟩ := hrel; by_cases hlt : k < l.length
  ·obtain ⟨b, off, rfl, hb, hc⟩ := h.int hlt
   have hd := Lib.hid (Z18 hlt)
   go_wp2
   ·have hne : (l[k] != 0) = true := by assumption
    go_ret; refine ⟨Z0b ?_, Z03⟩
    rw [H.out, hd.out, if_neg (by simpa using hne)]
   ·have hne : (l[k] != 0) = false := by assumption
    go_round
    case rel => exact ⟨k + 1, by omega, by go_num, by rw [H.out, hd.out, if_pos (by simpa using hne)]; rfl⟩
    case measure => simp [intOf]; omega
  ·have hkl : k = l.length := by omega
   go_wp2; go_ret; refine ⟨Z0b ?_, Z03⟩
   rw [H.out, hkl, List.drop_length]; rfl
theorem Z1n (x y : Int) (w : World) : Calls Tryz.prog 103 #[.agg #[.int .i64 x, .int .i64 y]] w (RV w (.int .i64 (Z19 x y))) := by
 go_enter Tryz.func103, Tryz.ntmps103
 go_wp2
 refine Z0z [0, 1, 3, 4] [(2, false)] [5, 6, 7, 8] (by kernel_rfl) (by kernel_rfl) (fun d _ _ _ _ h => by cases d <;> exact h) ?_
 simp only [List.map_cons, List.map_nil, List.getD_cons_zero, List.getD_cons_succ]
 repeat (go_big_quiet_step (fail))
 refine wpQuiet_nil ?_
 refine Z11 rfl (fun K hK => ?_)
 go_simp
 refine (Z1l _ _ _ _).mono ?_
 rintro e w1 ⟨rfl, hb1⟩
 refine hK _ _ (by (repeat first|exact J0|assumption|(apply J1;assumption)|apply J2|apply J3|apply J4)) ?_
 clear hK K
 refine Z10 ?_
 go_wp2_with (first | (go_at_call 101; refine (Z1l _ _ _ _).mono ?_; rintro e w2 ⟨rfl, hb2⟩) | (go_at_call 99; go_must (refine (Z1m [Z16 x (-100000) 100000, Z16 y (-100000) 100000] _ _ _ (by simp [maxLen]) (Rd.ints2 (by simp) (by go_simp) (by go_simp))).mono ?_); rintro e w3 ⟨rfl, hb3⟩))
 go_ret
 exact ⟨rfl, by (repeat first|exact J0|assumption|(apply J1;assumption)|apply J2|apply J3|apply J4)⟩
theorem Z1o (x y : Int) : Z19 x y = if farB x || farB y then 3 else 0 := by
 unfold Z19 Z16 farB Z15
 by_cases h1 : (decide (x < -100000) || decide (100000 < x)) = true <;> by_cases h2 : (decide (y < -100000) || decide (100000 < y)) = true <;> simp [h1, h2, Z17]
theorem Z1p (x y : Int) (w : World) :
  Calls Tryz.prog 100 #[.agg #[.int .i64 x, .int .i64 y]] w (RV w (.int .i64 (Z1a x y))) := by
 go_enter Tryz.func100, Tryz.ntmps100
 go_wp2
 refine Z0z [0, 2, 3, 4, 5, 6, 7, 8] [(1, false)] [9, 10, 11, 12] (by kernel_rfl) (by kernel_rfl) (fun d _ _ _ _ h => by cases d <;> exact h) ?_
 simp only [List.map_cons, List.map_nil, List.getD_cons_zero, List.getD_cons_succ]
 repeat (go_big_quiet_step (fail))
 refine wpQuiet_nil ?_
 refine Z11 rfl (fun K hK => ?_)
 go_simp
 refine (Z1n _ _ _).mono ?_
 rintro e w1 ⟨rfl, hb1⟩
 refine hK _ _ (by (repeat first|exact J0|assumption|(apply J1;assumption)|apply J2|apply J3|apply J4)) ?_
 clear hK K
 refine Z10 ?_
 go_wp2_with (first | (go_at_call 102; refine (Z1k _ _ _).mono ?_; rintro e w2 ⟨rfl, hb2⟩) | (go_at_call 99; go_must (refine (Z1m [Z19 x y, Z15 (bits BinOp.and IntKind.i64 (bits BinOp.xor IntKind.i64 x y) 1 != 0) 14] _ _ _ (by simp [maxLen]) (Rd.ints2 (by simp) (by go_simp) (by go_simp))).mono ?_); rintro e w3 ⟨rfl, hb3⟩))
 go_ret
 refine ⟨Z0b ?_, by (repeat first|exact J0|assumption|(apply J1;assumption)|apply J2|apply J3|apply J4)⟩
 rw [Z1i, Z1o]
 unfold Z1a Z15
 by_cases h1 : (farB x || farB y) = true
 ·simp [h1, Z17]
 ·by_cases h2 : (x + y) % 2 = 0 <;> simp [h1, h2, Z17]
theorem Z1q (x y : Int) (hx : -1000000 ≤ x ∧ x ≤ 1000000) (hy : -1000000 ≤ y ∧ y ≤ 1000000) (w : World) :
  Calls Tryz.prog 150 #[.int .i64 x, .int .i64 y] w (RV w (.bool (decide ((x + y) % 2 = 0)))) := by
 go_enter Tryz.func150, Tryz.ntmps150
 go_wp2
 go_ret
 refine ⟨Z0c ?_, Z03⟩
 rw [Bool.eq_iff_iff]
 simp only [beq_iff_eq, decide_eq_true_eq]
 rw [← Int.dvd_iff_tmod_eq_zero, Int.dvd_iff_emod_eq_zero]
theorem Z1r {n : Int} (h : farB n = false) : -100000 ≤ n ∧ n ≤ 100000 := by
 simp [farB] at h; omega
theorem Z1s (x y : Int) (w : World) :
  Calls Tryz.prog 154 #[.agg #[.int .i64 x, .int .i64 y]] w (RV w (.int .i64 (Z1a x y))) := by
 by_cases h1 : farB x = true
 ·go_enter Tryz.func154, Tryz.ntmps154
  go_wp2_with (go_at_call 146; refine (Z1j _ _).mono ?_; rintro e w1 ⟨rfl, hb1⟩)
  go_ret; exact ⟨Z0b (by simp [Z1a, h1]), by (repeat first|exact J0|assumption|(apply J1;assumption)|apply J2|apply J3|apply J4)⟩
 ·have h1' : farB x = false := by simpa using h1
  by_cases h2 : farB y = true
  ·go_enter Tryz.func154, Tryz.ntmps154
   go_wp2_with (go_at_call 146; refine (Z1j _ _).mono ?_; rintro e w1 ⟨rfl, hb1⟩; obtain ⟨hc1, hf1, hz1⟩ := Z02 hb1)
   go_ret; exact ⟨Z0b (by simp [Z1a, h1, h2]), by (repeat first|exact J0|assumption|(apply J1;assumption)|apply J2|apply J3|apply J4)⟩
  ·have h2' : farB y = false := by simpa using h2
   have hx := Z1r h1'
   have hy := Z1r h2'
   by_cases h3 : (x + y) % 2 = 0
   ·have h3' : decide ((x + y) % 2 = 0) = true := by simpa using h3
    go_enter Tryz.func154, Tryz.ntmps154
    go_wp2_with (first | (go_at_call 146; refine (Z1j _ _).mono ?_; rintro e w1 ⟨rfl, hb1⟩; obtain ⟨hc1, hf1, hz1⟩ := Z02 hb1) | (go_at_call 150; refine (Z1q _ _ (by omega) (by omega) _).mono ?_; rintro e w3 ⟨rfl, hb3⟩))
    go_ret; exact ⟨Z0b (by simp [Z1a, h1', h2', h3]), by (repeat first|exact J0|assumption|(apply J1;assumption)|apply J2|apply J3|apply J4)⟩
   ·have h3' : decide ((x + y) % 2 = 0) = false := by simpa using h3
    go_enter Tryz.func154, Tryz.ntmps154
    go_wp2_with (first | (go_at_call 146; refine (Z1j _ _).mono ?_; rintro e w1 ⟨rfl, hb1⟩; obtain ⟨hc1, hf1, hz1⟩ := Z02 hb1) | (go_at_call 150; refine (Z1q _ _ (by omega) (by omega) _).mono ?_; rintro e w3 ⟨rfl, hb3⟩))
    go_ret; exact ⟨Z0b (by simp [Z1a, h1', h2', h3]), by (repeat first|exact J0|assumption|(apply J1;assumption)|apply J2|apply J3|apply J4)⟩
abbrev Bar := Int × Int × Int
abbrev Knot := Int × Int
def barE (x y s : Int) : Int := if Z1a x y ≠ 0 then Z1a x y else if s ≠ 1 ∧ s ≠ -1 then 13 else Z1a (x + s) (y + 1)
def cmpI (a b : Int) : Int := if a < b then -1 else if b < a then 1 else 0
def Z1t (x y s x' y' s' : Int) : Int := Z17 [cmpI y y', cmpI x x', cmpI s s']
def Z1u (x y s x' y' s' : Int) : Bool := decide (y < y' ∨ y = y' ∧ (x < x' ∨ x = x' ∧ s < s'))
theorem Z1v (x y s x' y' s' : Int) : decide (0 ≤ Z1t x y s x' y' s') = !Z1u x y s x' y' s' := by
 unfold Z1t Z1u cmpI
 rw [Bool.eq_iff_iff]
 simp only [Z17, Bool.not_eq_true', decide_eq_false_iff_not]
 by_cases h1 : y < y' <;> by_cases h2 : y' < y <;> by_cases h3 : x < x' <;> by_cases h4 : x' < x <;> by_cases h5 : s < s' <;> by_cases h6 : s' < s <;> simp [h1, h2, h3, h4, h5, h6] <;> omega
def Z1w : Option Bar → List Bar → Int
  | _, [] => 0
  | p, b :: r => if barE b.1 b.2.1 b.2.2 ≠ 0 then barE b.1 b.2.1 b.2.2 else
      if (p.map fun q => !Z1u q.1 q.2.1 q.2.2 b.1 b.2.1 b.2.2) = some true then 11 else Z1w (some b) r
def netE (l : List Bar) : Int := if 4096 < l.length then 5 else Z1w none l
def Z1x (l : List Bar) (k : Nat) : Option Bar := if k = 0 then none else l[k - 1]?
theorem Z1y {l : List Bar} {k : Nat} (h : k < l.length) : Z1w (Z1x l k) (l.drop k) =
  if barE l[k].1 l[k].2.1 l[k].2.2 ≠ 0 then barE l[k].1 l[k].2.1 l[k].2.2 else
   if ((Z1x l k).map fun q => !Z1u q.1 q.2.1 q.2.2 l[k].1 l[k].2.1 l[k].2.2) = some true then 11 else Z1w (Z1x l (k + 1)) (l.drop (k + 1)) := by
 rw [List.drop_eq_getElem_cons h]
 have : Z1x l (k + 1) = some l[k] := by simp [Z1x, List.getElem?_eq_getElem h]
 rw [this]; rfl
theorem Z1z {l : List Bar} {k : Nat} (h : k < l.length) (h0 : 0 < k) : Z1x l k = some (l[k - 1]'(by omega)) := by
 rw [Z1x, if_neg (by omega), List.getElem?_eq_getElem]
def bc (b : Bar) : List Value := [.int .i64 b.1, .int .i64 b.2.1, .int .i64 b.2.2]
def kc (k : Knot) : List Value := [.int .i64 k.1, .int .i64 k.2]
theorem Z20 (b : Bar) : (bc b).length = 3 := rfl
theorem Z21 (b : Knot) : (kc b).length = 2 := rfl
theorem Rd.bar {w : World} {A : Option Addr} {l : List Bar} (h : Rd bc 3 w A l) {k : Nat} (hk : k < l.length) : ∃ b off, A = some ⟨b, off, none⟩ ∧ b < w.heap.size ∧
  w.cell? ⟨b, off + k * 3, none⟩ = some (.int .i64 l[k].1) ∧ w.cell? ⟨b, off + k * 3 + 1, none⟩ = some (.int .i64 l[k].2.1) ∧ w.cell? ⟨b, off + k * 3 + 2, none⟩ = some (.int .i64 l[k].2.2) := by
 obtain ⟨b, off, e, hlt, hc⟩ := h k l[k] (List.getElem?_eq_getElem hk)
 exact ⟨b, off, e, hlt, by simpa using hc 0 _ rfl, hc 1 _ rfl, hc 2 _ rfl⟩
theorem Rd.knot {w : World} {A : Option Addr} {l : List Knot} (h : Rd kc 2 w A l) {k : Nat} (hk : k < l.length) : ∃ b off, A = some ⟨b, off, none⟩ ∧ b < w.heap.size ∧
  w.cell? ⟨b, off + k * 2, none⟩ = some (.int .i64 l[k].1) ∧ w.cell? ⟨b, off + k * 2 + 1, none⟩ = some (.int .i64 l[k].2) := by
 obtain ⟨b, off, e, hlt, hc⟩ := h k l[k] (List.getElem?_eq_getElem hk)
 exact ⟨b, off, e, hlt, by simpa using hc 0 _ rfl, hc 1 _ rfl⟩
theorem Rd.barAt {w : World} {b off : Nat} {l : List Bar} (h : Rd bc 3 w (some ⟨b, off, none⟩) l) {k : Nat} (hk : k < l.length) : b < w.heap.size ∧
  w.cell? ⟨b, off + k * 3, none⟩ = some (.int .i64 l[k].1) ∧ w.cell? ⟨b, off + k * 3 + 1, none⟩ = some (.int .i64 l[k].2.1) ∧ w.cell? ⟨b, off + k * 3 + 2, none⟩ = some (.int .i64 l[k].2.2) := by
 obtain ⟨b', off', e, hlt, h1, h2, h3⟩ := h.bar hk
 obtain ⟨rfl, rfl⟩ : b = b' ∧ off = off' := by simpa using e
 exact ⟨hlt, h1, h2, h3⟩
@[go_sem] theorem idx_ends0 (a b c d : Int) (w : World) : (Instr.index 268 (.agg #[.int .i64 a, .int .i64 b, .int .i64 c, .int .i64 d]) (.int .i64 0)).run Tryz.prog w = .ok (.agg #[.int .i64 a, .int .i64 b]) w := by kernel_rfl
@[go_sem] theorem idx_ends1 (a b c d : Int) (w : World) : (Instr.index 268 (.agg #[.int .i64 a, .int .i64 b, .int .i64 c, .int .i64 d]) (.int .i64 1)).run Tryz.prog w = .ok (.agg #[.int .i64 c, .int .i64 d]) w := by kernel_rfl
theorem Z22 {x y : Int} (h : Z1a x y = 0) : -100000 ≤ x ∧ x ≤ 100000 ∧ -100000 ≤ y ∧ y ≤ 100000 ∧ (x + y) % 2 = 0 := by
 unfold Z1a farB at h
 split at h
 ·simp at h
 ·rename_i h1
  simp at h1
  split at h
  ·omega
  ·simp at h
theorem Z23 (n : Int) (w : World) : Calls Tryz.prog 218 #[.int .i64 n] w (RV w (.bool false)) := by
 have h : (n != n) = false := by simp
 go_enter Tryz.func218, Tryz.ntmps218
 go_wp2
 go_ret
 exact ⟨Z0c (by simp), Z03⟩
theorem Z24 (a b : Int) (w : World) : Calls Tryz.prog 198 #[.int .i64 a, .int .i64 b] w (RV w (.int .i64 (cmpI a b))) := by
 go_enter Tryz.func198, Tryz.ntmps198
 go_wp2_with (go_at_call 218; refine (Z23 _ _).mono ?_; rintro e w1 ⟨rfl, hb1⟩)
 all_goals go_ret
 all_goals refine ⟨Z0b ?_, by (repeat first|exact J0|assumption|(apply J1;assumption)|apply J2|apply J3|apply J4)⟩
 ·have h : a < b := by assumption
  simp [cmpI, h]
 ·have h : b < a := by assumption
  have h' : ¬ a < b := by omega
  simp [cmpI, h, h']
 ·have h : b ≤ a := by assumption
  have h'' : a ≤ b := by assumption
  have h1 : ¬ a < b := by omega
  have h2 : ¬ b < a := by omega
  simp [cmpI, h1, h2]
theorem Z25 (l : List Int) (A : Option Addr) (c : Nat) (w : World) (hl : l.length ≤ maxLen) (h : Rd ic 1 w A l) :
  Calls Tryz.prog 197 #[.slice A l.length c] w (RV w (.int .i64 (Z17 l))) := by
 unfold maxLen at hl
 go_enter Tryz.func197, Tryz.ntmps197
 go_wp2
 go_loop [8] (fun i => ∃ k : Nat, k ≤ l.length ∧ i = .int .i64 k ∧ Hid (Z17 l = Z17 (l.drop k))) (fun i => l.length - (intOf i).toNat)
 case atStart => exact ⟨0, Nat.zero_le _, rfl, rfl⟩
 case round =>
  obtain ⟨k, hk, rfl, H⟩ := hrel; by_cases hlt : k < l.length
  ·obtain ⟨b, off, rfl, hb, hc⟩ := h.int hlt
   have hd := Lib.hid (Z18 hlt)
   go_wp2
   ·have hne : (l[k] != 0) = true := by assumption
    go_ret; refine ⟨Z0b ?_, Z03⟩
    rw [H.out, hd.out, if_neg (by simpa using hne)]
   ·have hne : (l[k] != 0) = false := by assumption
    go_round
    case rel => exact ⟨k + 1, by omega, by go_num, by rw [H.out, hd.out, if_pos (by simpa using hne)]; rfl⟩
    case measure => simp [intOf]; omega
  ·have hkl : k = l.length := by omega
   go_wp2; go_ret; refine ⟨Z0b ?_, Z03⟩
   rw [H.out, hkl, List.drop_length]; rfl
theorem Z26 (x y s x' y' s' : Int) (w : World) :
  Calls Tryz.prog 158 #[.agg #[.int .i64 x, .int .i64 y, .int .i64 s], .agg #[.int .i64 x', .int .i64 y', .int .i64 s']] w (RV w (.int .i64 (Z1t x y s x' y' s'))) := by
 go_enter Tryz.func158, Tryz.ntmps158
 go_wp2
 refine Z0z [0, 1, 2, 3, 5, 6, 7, 8, 10, 11, 12, 13] [(4, false), (9, false)] [14, 15, 16, 17] (by kernel_rfl) (by kernel_rfl) (fun d _ _ _ _ h => by cases d <;> exact h) ?_
 simp only [List.map_cons, List.map_nil, List.getD_cons_zero, List.getD_cons_succ]
 repeat (go_big_quiet_step (fail))
 refine wpQuiet_nil ?_
 refine Z11 rfl (fun K hK => ?_)
 go_simp
 refine (Z24 _ _ _).mono ?_
 rintro e w1 ⟨rfl, hb1⟩
 refine hK _ _ (by (repeat first|exact J0|assumption|(apply J1;assumption)|apply J2|apply J3|apply J4)) ?_
 clear hK K
 refine Z11 rfl (fun K hK => ?_)
 go_simp
 refine (Z24 _ _ _).mono ?_
 rintro e w2 ⟨rfl, hb2⟩
 refine hK _ _ (by (repeat first|exact J0|assumption|(apply J1;assumption)|apply J2|apply J3|apply J4)) ?_
 clear hK K
 refine Z10 ?_
 go_wp2_with (first | (go_at_call 198; refine (Z24 _ _ _).mono ?_; rintro e w3 ⟨rfl, hb3⟩) | (go_at_call 197; go_must (refine (Z25 [cmpI y y', cmpI x x', cmpI s s'] _ _ _ (by simp [maxLen]) (Rd.ints3 (by simp) (by go_simp) (by go_simp) (by go_simp))).mono ?_); rintro e w4 ⟨rfl, hb4⟩))
 go_ret
 exact ⟨rfl, by (repeat first|exact J0|assumption|(apply J1;assumption)|apply J2|apply J3|apply J4)⟩
theorem Z27 (x y s : Int) (hx : -1000000 ≤ x ∧ x ≤ 1000000) (hy : -1000000 ≤ y ∧ y ≤ 1000000) (hs : -10 ≤ s ∧ s ≤ 10) (w : World) :
  Calls Tryz.prog 192 #[.agg #[.int .i64 x, .int .i64 y, .int .i64 s]] w (RV w (.agg #[.int .i64 x, .int .i64 y, .int .i64 (x + s), .int .i64 (y + 1)])) := by
 go_enter Tryz.func192, Tryz.ntmps192
 go_wp2
 refine bodyPost_ret (v := .agg #[.int .i64 x, .int .i64 y, .int .i64 (x + s), .int .i64 (y + 1)]) (by simp [results, Tryz.results192, go_sem]) rfl ?_
 exact ⟨rfl, by (repeat first|exact J0|assumption|(apply J1;assumption)|apply J2|apply J3|apply J4)⟩
theorem Z28 {x y s : Int} (h : Z1a x y = 0) (hs : s = 1 ∨ s = -1) : Z1a (x + s) (y + 1) = Z19 (x + s) (y + 1) := by
 obtain ⟨_, _, _, _, hp⟩ := Z22 h
 rw [Z1o]
 unfold Z1a
 by_cases h1 : (farB (x + s) || farB (y + 1)) = true
 ·rw [if_pos h1, if_pos h1]
 ·rw [if_neg h1, if_neg h1, if_pos (by omega)]
theorem Z29 (x y s : Int) (w : World) : Calls Tryz.prog 191 #[.agg #[.int .i64 x, .int .i64 y, .int .i64 s]] w (RV w (.int .i64 (barE x y s))) := by
 have hB := Blk.new w 111 #[.int .i64 x, .int .i64 y, .int .i64 s]
 by_cases hs : s = 1 ∨ s = -1
 ·by_cases h0 : Z1a x y = 0
  ·obtain ⟨hx1, hx2, hy1, hy2, hp⟩ := Z22 h0
   have HB : Hid (barE x y s = Z19 (x + s) (y + 1)) := by
    unfold barE; rw [if_neg (by simpa using h0), if_neg (by omega), Z28 h0 hs]; rfl
   have hF : (Z17 [Z1a x y, Z15 false 13] != 0) = false := by simp [h0, Z17, Z15]
   clear h0 hp; rcases hs with rfl | rfl
   all_goals
    go_enter Tryz.func191, Tryz.ntmps191
    go_wp2; refine Z0z [0, 1, 2, 3, 4, 6, 7, 8] [(5, false)] [9, 10, 11, 12, 13, 14, 15, 16, 17] (by kernel_rfl) (by kernel_rfl) (fun d _ _ _ _ h => by cases d <;> exact h) ?_
    simp only [List.map_cons, List.map_nil, List.getD_cons_zero, List.getD_cons_succ]; repeat (go_big_quiet_step (fail))
    refine wpQuiet_nil ?_; refine Z11 rfl (fun K hK => ?_); go_simp; refine (Z1p _ _ _).mono ?_
    rintro e w1 ⟨rfl, hb1⟩; refine hK _ _ (by (repeat first|exact J0|assumption|(apply J1;assumption)|apply J2|apply J3|apply J4)) ?_
    clear hK K; (first | replace hB := hB.st0 hb1 | replace hB := hB.st1 hb1 | replace hB := hB.std hb1 | replace hB := hB.std1 hb1 | replace hB := hB.st2 hb1 | replace hB := hB.std2 hb1 | replace hB := hB.st3 hb1)
    have kB := hB.facts
    refine Z10 ?_; go_wp2_with (first | (go_at_call 102; refine (Z1k _ _ _).mono ?_; rintro e w1 ⟨rfl, hb1⟩; (first | replace hB := hB.st0 hb1 | replace hB := hB.st1 hb1 | replace hB := hB.std hb1 | replace hB := hB.std1 hb1 | replace hB := hB.st2 hb1 | replace hB := hB.std2 hb1 | replace hB := hB.st3 hb1); have kB := hB.facts) | (go_at_call 99; refine (Z1m [Z1a x y, Z15 false 13] _ _ _ (by simp [maxLen]) (Rd.ints2 (by simp) (by go_simp) (by go_simp))).mono ?_; rintro e w1 ⟨rfl, hb1⟩; (first | replace hB := hB.st0 hb1 | replace hB := hB.st1 hb1 | replace hB := hB.std hb1 | replace hB := hB.std1 hb1 | replace hB := hB.st2 hb1 | replace hB := hB.std2 hb1 | replace hB := hB.st3 hb1); have kB := hB.facts) | (go_at_call 192; refine (Z27 _ _ _ (by omega) (by omega) (by omega) _).mono ?_; rintro e w1 ⟨rfl, hb1⟩) | (go_at_call 103; refine (Z1n _ _ _).mono ?_; rintro e w1 ⟨rfl, hb1⟩))
    go_ret; exact ⟨Z0b (by rw [HB.out]), by (repeat first|exact J0|assumption|(apply J1;assumption)|apply J2|apply J3|apply J4)⟩
  ·have HB : Hid (barE x y s = Z17 [Z1a x y, Z15 false 13]) := by unfold barE; rw [if_pos h0]; simp [Z17, h0, Hid]
   have hF : (Z17 [Z1a x y, Z15 false 13] != 0) = true := by simp [h0, Z17]
   clear h0; rcases hs with rfl | rfl
   all_goals
    go_enter Tryz.func191, Tryz.ntmps191
    go_wp2; refine Z0z [0, 1, 2, 3, 4, 6, 7, 8] [(5, false)] [9, 10, 11, 12, 13, 14, 15, 16, 17] (by kernel_rfl) (by kernel_rfl) (fun d _ _ _ _ h => by cases d <;> exact h) ?_
    simp only [List.map_cons, List.map_nil, List.getD_cons_zero, List.getD_cons_succ]; repeat (go_big_quiet_step (fail))
    refine wpQuiet_nil ?_; refine Z11 rfl (fun K hK => ?_); go_simp; refine (Z1p _ _ _).mono ?_
    rintro e w1 ⟨rfl, hb1⟩; refine hK _ _ (by (repeat first|exact J0|assumption|(apply J1;assumption)|apply J2|apply J3|apply J4)) ?_
    clear hK K; (first | replace hB := hB.st0 hb1 | replace hB := hB.st1 hb1 | replace hB := hB.std hb1 | replace hB := hB.std1 hb1 | replace hB := hB.st2 hb1 | replace hB := hB.std2 hb1 | replace hB := hB.st3 hb1)
    have kB := hB.facts
    refine Z10 ?_; go_wp2_with (first | (go_at_call 102; refine (Z1k _ _ _).mono ?_; rintro e w1 ⟨rfl, hb1⟩) | (go_at_call 99; refine (Z1m [Z1a x y, Z15 false 13] _ _ _ (by simp [maxLen]) (Rd.ints2 (by simp) (by go_simp) (by go_simp))).mono ?_; rintro e w1 ⟨rfl, hb1⟩))
    go_ret; exact ⟨Z0b (by rw [HB.out]), by (repeat first|exact J0|assumption|(apply J1;assumption)|apply J2|apply J3|apply J4)⟩
 ·have h1 : (s != 1) = true := by simp; omega
  have h2 : (s != -1) = true := by simp; omega
  have HB : Hid (barE x y s = Z17 [Z1a x y, Z15 true 13]) := by
   unfold barE; by_cases h0 : Z1a x y = 0
   ·rw [if_neg (by simpa using h0), if_pos (by omega)]; simp [Z17, h0, Z15, Hid]
   ·rw [if_pos h0]; simp [Z17, h0, Hid]
  have hF : (Z17 [Z1a x y, Z15 true 13] != 0) = true := by
   by_cases h0 : Z1a x y = 0 <;> simp [h0, Z17, Z15]
  clear hs; go_enter Tryz.func191, Tryz.ntmps191
  go_wp2; refine Z0z [0, 1, 2, 3, 4, 6, 7, 8] [(5, false)] [9, 10, 11, 12, 13, 14, 15, 16, 17] (by kernel_rfl) (by kernel_rfl) (fun d _ _ _ _ h => by cases d <;> exact h) ?_
  simp only [List.map_cons, List.map_nil, List.getD_cons_zero, List.getD_cons_succ]; repeat (go_big_quiet_step (fail))
  refine wpQuiet_nil ?_; refine Z11 rfl (fun K hK => ?_); go_simp; refine (Z1p _ _ _).mono ?_
  rintro e w1 ⟨rfl, hb1⟩; refine hK _ _ (by (repeat first|exact J0|assumption|(apply J1;assumption)|apply J2|apply J3|apply J4)) ?_
  clear hK K; (first | replace hB := hB.st0 hb1 | replace hB := hB.st1 hb1 | replace hB := hB.std hb1 | replace hB := hB.std1 hb1 | replace hB := hB.st2 hb1 | replace hB := hB.std2 hb1 | replace hB := hB.st3 hb1)
  have kB := hB.facts
  refine Z10 ?_; go_wp2_with (first | (go_at_call 102; refine (Z1k _ _ _).mono ?_; rintro e w1 ⟨rfl, hb1⟩) | (go_at_call 99; refine (Z1m [Z1a x y, Z15 true 13] _ _ _ (by simp [maxLen]) (Rd.ints2 (by simp) (by go_simp) (by go_simp))).mono ?_; rintro e w1 ⟨rfl, hb1⟩))
  go_ret; exact ⟨Z0b (by rw [HB.out]), by (repeat first|exact J0|assumption|(apply J1;assumption)|apply J2|apply J3|apply J4)⟩
theorem Z2a {l : List Bar} {k : Nat} (h : k < l.length) (hE : barE l[k].1 l[k].2.1 l[k].2.2 ≠ 0) : Z1w (Z1x l k) (l.drop k) = barE l[k].1 l[k].2.1 l[k].2.2 := by
 rw [Z1y h, if_pos hE]
theorem Z2b {l : List Bar} (h : 0 < l.length) (hE : barE (l[0]'h).1 (l[0]'h).2.1 (l[0]'h).2.2 = 0) : Z1w (Z1x l 0) (l.drop 0) = Z1w (Z1x l (0 + 1)) (l.drop (0 + 1)) := by
 rw [Z1y h, if_neg (by simpa using hE), if_neg (by simp [Z1x])]
theorem Z2c {l : List Bar} {k : Nat} (h : k < l.length) (h0 : 0 < k) (hE : barE l[k].1 l[k].2.1 l[k].2.2 = 0)
  (ho : Z1u (l[k - 1]'(by omega)).1 (l[k - 1]'(by omega)).2.1 (l[k - 1]'(by omega)).2.2 l[k].1 l[k].2.1 l[k].2.2 = false) : Z1w (Z1x l k) (l.drop k) = 11 := by
 rw [Z1y h, if_neg (by simpa using hE), if_pos (by rw [Z1z h h0]; simp [ho])]
theorem Z2d {l : List Bar} {k : Nat} (h : k < l.length) (h0 : 0 < k) (hE : barE l[k].1 l[k].2.1 l[k].2.2 = 0)
  (ho : Z1u (l[k - 1]'(by omega)).1 (l[k - 1]'(by omega)).2.1 (l[k - 1]'(by omega)).2.2 l[k].1 l[k].2.1 l[k].2.2 = true) : Z1w (Z1x l k) (l.drop k) = Z1w (Z1x l (k + 1)) (l.drop (k + 1)) := by
 rw [Z1y h, if_neg (by simpa using hE), if_neg (by rw [Z1z h h0]; simp [ho])]
open Go.ChangeMaps
set_option maxHeartbeats 4000000
abbrev Stp := UInt8 × Bool
abbrev Edg := List UInt8 × Int × Bool
abbrev Pan := List UInt8 × Int × List Edg × List Edg
def Z2e (e : Edg) : List Stp := e.1.map fun c => (c, e.2.2)
def timS (e : Edg) : Nat → List Stp
 | 0 => []
 | n + 1 => timS e n ++ Z2e e
def edgS (e : Edg) : List Stp := timS e e.2.1.toNat
def stpL (l : List Edg) : List Stp := l.flatMap edgS
theorem Z2f (e : Edg) : (Z2e e).length = e.1.length := by unfold Z2e; simp
theorem Z2g (e : Edg) : ∀ n, (timS e n).length = n * e.1.length
 | 0 => by simp [timS]
 | n + 1 => by rw [timS, List.length_append, Z2g e n, Z2f, Nat.succ_mul]
theorem Z2h (e : Edg) : (edgS e).length = e.2.1.toNat * e.1.length := Z2g e _
theorem Z2i (e : Edg) (l : List Edg) : stpL (e :: l) = edgS e ++ stpL l := by unfold stpL; simp
theorem Z2j (a b : List Edg) : stpL (a ++ b) = stpL a ++ stpL b := by unfold stpL; simp
theorem Z2k {l : List Edg} {k : Nat} (hk : k < l.length) : stpL (l.take (k + 1)) = stpL (l.take k) ++ edgS l[k] := by
 rw [List.take_succ_eq_append_getElem hk, Z2j]
 simp [stpL]
def Z2l (right : Bool) : Int := if right then 1 else -1
def aft (k : Knot) (c : UInt8) (right : Bool) : Knot := if c = 78 then (k.1, k.2 + 2) else if c = 66 then (k.1 + Z2l right, k.2 + 1) else (k.1 + 2 * Z2l right, k.2)
def Z2m (right : Bool) (k : Knot) (s : Stp) : Knot := aft k s.1 (s.2 == right)
def posK (right : Bool) (k : Knot) (l : List Stp) : Knot := l.foldl (Z2m right) k
def outK (right : Bool) (k : Knot) : List Stp → List Knot
 | [] => [k]
 | s :: r => k :: outK right (Z2m right k s) r
theorem Z2n (right : Bool) (k : Knot) (a b : List Stp) : posK right k (a ++ b) = posK right (posK right k a) b := by unfold posK; rw [List.foldl_append]
theorem Z2o (right : Bool) (k : Knot) (a : List Stp) (s : Stp) : posK right k (a ++ [s]) = Z2m right (posK right k a) s := by rw [Z2n]; rfl
theorem Z2p (right : Bool) : ∀ (l : List Stp) (k : Knot), (outK right k l).length = l.length + 1
 | [], _ => rfl
 | s :: r, k => by rw [outK, List.length_cons, Z2p right r, List.length_cons]
theorem Z2q (right : Bool) : ∀ (l : List Stp) (k : Knot) (s : Stp), outK right k (l ++ [s]) = outK right k l ++ [posK right k (l ++ [s])]
 | [], _, _ => rfl
 | a :: r, k, s => by
  rw [List.cons_append, outK, outK, Z2q right r, List.cons_append]; rfl
theorem Z2r (right : Bool) : ∀ (l : List Stp) (k : Knot) (i : Nat) (h : i < (outK right k l).length), (outK right k l)[i] = posK right k (l.take i)
 | [], k, 0, _ => rfl
 | [], k, i + 1, h => by simp [outK] at h
 | s :: r, k, 0, _ => rfl
 | s :: r, k, i + 1, h => by
  have := Z2r right r (Z2m right k s) i (by simpa [outK] using h)
  simpa [outK, posK] using this
theorem Z2s (right : Bool) (k : Knot) (l : List Stp) : (outK right k l)[l.length]? = some (posK right k l) := by
 have h : l.length < (outK right k l).length := by rw [Z2p]; omega
 rw [List.getElem?_eq_getElem h, Z2r, List.take_length]
theorem Z2t {right : Bool} {k : Knot} {s : Stp} {n : Int} (h : -n ≤ k.1 ∧ k.1 ≤ n ∧ 0 ≤ k.2 ∧ k.2 ≤ n) : -(n + 2) ≤ (Z2m right k s).1 ∧ (Z2m right k s).1 ≤ n + 2 ∧ 0 ≤ (Z2m right k s).2 ∧ (Z2m right k s).2 ≤ n + 2 := by
 unfold Z2m aft Z2l
 split
 ·simp only; omega
 ·split
  ·simp only; split <;> omega
  ·simp only; split <;> omega
theorem Z2u {right : Bool} {n : Int} : ∀ (l : List Stp) {k : Knot} (_ : -n ≤ k.1 ∧ k.1 ≤ n ∧ 0 ≤ k.2 ∧ k.2 ≤ n), -(n + 2 * l.length) ≤ (posK right k l).1 ∧ (posK right k l).1 ≤ n + 2 * l.length ∧ 0 ≤ (posK right k l).2 ∧ (posK right k l).2 ≤ n + 2 * l.length := by
 intro l
 induction l generalizing n with
 | nil => intro k h; simpa [posK] using h
 | cons s r ih =>
  intro k h; have := ih (n := n + 2) (k := Z2m right k s) (Z2t h)
  rw [List.length_cons]; show -(n + 2 * ((r.length + 1 : Nat) : Int)) ≤ (posK right (Z2m right k s) r).1 ∧ _
  simp only [posK] at this ⊢; simp only [List.foldl_cons]; omega
def Z2v (c : UInt8) : Int := if c = 78 then 2 else if c = 66 then 1 else 0
def Z2w (l : List Stp) : Int := (l.map fun s => Z2v s.1).sum
theorem Z2x (a b : List Stp) : Z2w (a ++ b) = Z2w a + Z2w b := by unfold Z2w; simp
theorem Z2y (s : Stp) (b : List Stp) : Z2w (s :: b) = Z2v s.1 + Z2w b := by unfold Z2w; simp
theorem Z2z (c : UInt8) : 0 ≤ Z2v c ∧ Z2v c ≤ 2 := by
 unfold Z2v
 split
 ·omega
 ·split <;> omega
theorem Z30 : ∀ l : List Stp, 0 ≤ Z2w l ∧ Z2w l ≤ 2 * l.length
 | [] => by simp [Z2w]
 | s :: r => by
  have := Z30 r
  have := Z2z s.1
  rw [Z2y, List.length_cons]; omega
theorem Z31 (right : Bool) (k : Knot) (s : Stp) : (Z2m right k s).2 = k.2 + Z2v s.1 := by
 unfold Z2m aft Z2v
 split
 ·rfl
 ·split
  ·rfl
  ·simp
theorem Z32 (right : Bool) : ∀ (l : List Stp) (k : Knot), (posK right k l).2 = k.2 + Z2w l
 | [], k => by simp [posK, Z2w]
 | s :: r, k => by
  have := Z32 right r (Z2m right k s)
  rw [Z2y]; show (posK right (Z2m right k s) r).2 = _
  rw [this, Z31]; omega
def Z33 (p : Pan) (right : Bool) : List Edg := if right then p.2.2.2 else p.2.2.1
def Z34 (p : Pan) (right : Bool) : Knot := if right then (2 * p.2.1, 0) else (0, 0)
def outP (p : Pan) (right : Bool) : List Knot := outK right (Z34 p right) (stpL (Z33 p right))
def Z35 (p : Pan) : Int := Z2w (stpL p.2.2.1)
def Z36 (w : List UInt8) : Bool := w.any fun c => !(c == 78 || c == 66 || c == 84)
def edgE (e : Edg) : Int := Z17 [Z15 (decide (e.1 = [])) 12, Z15 (decide (64 < e.1.length)) 26, Z15 (Z36 e.1) 1, Z16 e.2.1 1 64]
def Z37 : List Edg → Int → Int
 | [], n => Z15 (decide (512 < n)) 5
 | e :: r, n => if edgE e = 0 then Z37 r (n + e.1.length * e.2.1) else edgE e
def Z38 (l : List Edg) : Int := if 64 < l.length then 5 else Z37 l 0
theorem Z39 {e : Edg} (h : edgE e = 0) : e.1 ≠ [] ∧ e.1.length ≤ 64 ∧ Z36 e.1 = false ∧ 1 ≤ e.2.1 ∧ e.2.1 ≤ 64 := by
 unfold edgE at h
 simp only [Z17] at h
 split at h
 ·rename_i h1
  split at h
  ·rename_i h2
   split at h
   ·rename_i h3
    split at h
    ·rename_i h4
     unfold Z15 at h1 h2 h3; unfold Z16 Z15 at h4; split at h1
     ·omega
     ·split at h2
      ·omega
      ·split at h3
       ·omega
       ·split at h4
        ·omega
        ·rename_i q1 q2 q3 q4
         simp only [decide_eq_true_eq, Bool.or_eq_true, not_or, Bool.not_eq_true] at q1 q2 q3 q4; exact ⟨q1, by omega, q3, by omega, by omega⟩
    ·rename_i h4; exact absurd h h4
   ·rename_i h3; exact absurd h h3
  ·rename_i h2; exact absurd h h2
 ·rename_i h1; exact absurd h h1
theorem Z3a : ∀ (l : List Edg) (n : Int), Z37 l n = 0 → (∀ e ∈ l, edgE e = 0) ∧ n + (stpL l).length ≤ 512
 | [], n, h => by
  unfold Z37 Z15 at h; split at h
  ·omega
  ·rename_i h2
   refine ⟨fun e he => (by cases he), ?_⟩
   simp [stpL] at h2 ⊢
   omega
 | e :: r, n, h => by
  unfold Z37 at h; split at h
  ·rename_i h1
   obtain ⟨i1, i2⟩ := Z3a r _ h
   obtain ⟨q1, q2, q3, q4, q5⟩ := Z39 h1
   refine ⟨fun x hx => ?_, ?_⟩
   ·rcases List.mem_cons.1 hx with rfl | hx
    ·exact h1
    ·exact i1 x hx
   ·rw [Z2i, List.length_append, Z2h]
    obtain ⟨t, ht⟩ : ∃ t : Nat, e.2.1 = t := ⟨e.2.1.toNat, by omega⟩
    rw [ht] at i2 ⊢; rw [Int.toNat_natCast, Nat.mul_comm]; push_cast at i2 ⊢
    omega
  ·rename_i h1; exact absurd h h1
structure Z3b (l : List Edg) : Prop where
 few : l.length ≤ 64
 ok : ∀ e ∈ l, edgE e = 0
 len : (stpL l).length ≤ 512
theorem Z3c {l : List Edg} (h : Z38 l = 0) : Z3b l := by
 unfold Z38 at h
 split at h
 ·omega
 ·obtain ⟨h1, h2⟩ := Z3a l 0 h
  exact ⟨by omega, h1, by omega⟩
end Go.Proofs.YtpcgeihemkhkjaaGreatDoor

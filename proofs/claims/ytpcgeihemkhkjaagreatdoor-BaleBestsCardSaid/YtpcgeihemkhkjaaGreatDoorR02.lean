/- The checks of chapter 1, walked: each call of the program's and of the reference's checks returns what the plain function of its name says. Conditions: a list no longer than maxLen. -/
import Derived.Test.YtpcgeihemkhkjaaGreatDoorProg
import Derived.Test.YtpcgeihemkhkjaaGreatDoorR01
import Derived.WalkSpells
namespace Go.Proofs.YtpcgeihemkhkjaaGreatDoor
open Go.RowKit
set_option maxHeartbeats 400000
set_option maxRecDepth 100000
def farB (n : Int) : Bool := decide (n < -100000) || decide (100000 < n)
def Z14 (b : Bool) (n : Int) : Int := if b then n else 0
def Z15 (n lo hi : Int) : Int := Z14 (decide (n < lo) || decide (hi < n)) 3
def Z16 : List Int → Int
 | [] => 0
 | x :: r => if x = 0 then Z16 r else x
theorem Z17 {l : List Int} {k : Nat} (h : k < l.length) : Z16 (l.drop k) = if l[k] = 0 then Z16 (l.drop (k + 1)) else l[k] := by
 rw [List.drop_eq_getElem_cons h]; rfl
def Z18 (x y : Int) : Int := Z16 [Z15 x (-100000) 100000, Z15 y (-100000) 100000]
def Z19 (x y : Int) : Int := if farB x || farB y then 3 else if (x + y) % 2 = 0 then 0 else 14
theorem Z1a (z : Int) : ((BitVec.ofInt 64 z).toNat : Int) = z % 18446744073709551616 := by
 rw [BitVec.toNat_ofInt]
 have e : ((2 ^ 64 : Nat) : Int) = 18446744073709551616 := by decide
 rw [e, Int.toNat_of_nonneg (Int.emod_nonneg _ (by decide))]
theorem Z1b (a b : Nat) : (a ^^^ b) % 2 = (a + b) % 2 := by
 have h : (a ^^^ b) % 2 ^ 1 = (a % 2 ^ 1) ^^^ (b % 2 ^ 1) := Nat.xor_mod_two_pow
 rw [Nat.pow_one] at h
 rw [h]
 rcases Nat.mod_two_eq_zero_or_one a with h1 | h1 <;> rcases Nat.mod_two_eq_zero_or_one b with h2 | h2 <;> rw [h1, h2, Nat.add_mod, h1, h2] <;> decide
theorem Z1c (x y : Int) : bits .xor .i64 x y = IntKind.i64.wrap (((BitVec.ofInt 64 x).toNat ^^^ (BitVec.ofInt 64 y).toNat : Nat) : Int) :=
 congrArg (fun z : Nat => IntKind.i64.wrap (z : Int)) (BitVec.toNat_xor (BitVec.ofInt 64 x) (BitVec.ofInt 64 y))
theorem Z1d (x : Int) : bits .and .i64 x 1 = IntKind.i64.wrap (((BitVec.ofInt 64 x).toNat % 2 : Nat) : Int) :=
 (congrArg (fun z : Nat => IntKind.i64.wrap (z : Int)) (BitVec.toNat_and (BitVec.ofInt 64 x) (BitVec.ofInt 64 1))).trans (by
  rw [show (BitVec.ofInt 64 1).toNat = 1 from rfl, Nat.and_one_is_mod])
theorem Z1e (z : Int) : (z % 18446744073709551616) % 2 = z % 2 := Int.emod_emod_of_dvd z (by decide)
theorem Z1f (n : Nat) (h : n < 2) : IntKind.i64.wrap (n : Int) = n := by
 rcases (by omega : n = 0 ∨ n = 1) with rfl | rfl <;> decide
theorem Z1g (z : Int) : IntKind.i64.wrap z % 2 = z % 2 := by
 rw [IntKind.wrap_i64, Int.sub_emod, Z1e, Int.add_emod]
 simp
theorem Z1h (x y : Int) : bits .and .i64 (bits .xor .i64 x y) 1 = (x + y) % 2 := by
 rw [Z1d, Z1c, Z1f _ (Nat.mod_lt _ (Nat.zero_lt_succ 1)), Int.natCast_emod, Z1a]
 show _ % 18446744073709551616 % 2 = _
 rw [Z1e, Z1g]
 have h := Z1b (BitVec.ofInt 64 x).toNat (BitVec.ofInt 64 y).toNat
 have h2 : (((BitVec.ofInt 64 x).toNat ^^^ (BitVec.ofInt 64 y).toNat : Nat) : Int) % 2 = (((BitVec.ofInt 64 x).toNat : Int) + ((BitVec.ofInt 64 y).toNat : Int)) % 2 := by
  have := congrArg (Nat.cast : Nat → Int) h
  simpa using this
 rw [h2, Z1a, Z1a, Int.add_emod, Z1e, Z1e, ← Int.add_emod]
theorem Z1i (b : Bool) (n : Int) (w : World) : Calls Tryz.prog 102 #[.bool b, .int .i64 n] w (RV w (.int .i64 (Z14 b n))) := by
 cases b
 all_goals
  go_enter Tryz.func102, Tryz.ntmps102
  go_wp2; go_ret; exact ⟨rfl, Z02⟩
theorem Z1j (n lo hi : Int) (w : World) : Calls Tryz.prog 101 #[.int .i64 n, .int .i64 lo, .int .i64 hi] w (RV w (.int .i64 (Z15 n lo hi))) := by
 go_enter Tryz.func101, Tryz.ntmps101
 go_wp2_with (go_at_call 102; refine (Z1i _ _ _).mono ?_; rintro e w1 ⟨rfl, hb1⟩)
 all_goals go_ret
 ·exact ⟨rfl, hb1⟩
 ·exact ⟨Z0a (by simp [Z15, *]), hb1⟩
def ic (n : Int) : List Value := [.int .i64 n]
theorem Rd.int {w : World} {A : Option Addr} {l : List Int} (h : Rd ic 1 w A l) {k : Nat} (hk : k < l.length) : ∃ b off, A = some ⟨b, off, none⟩ ∧ b < w.heap.size ∧ w.cell? ⟨b, off + k, none⟩ = some (.int .i64 l[k]) := by
 obtain ⟨b, off, e, hlt, hc⟩ := h k l[k] (List.getElem?_eq_getElem hk)
 exact ⟨b, off, e, hlt, by simpa using hc 0 _ rfl⟩
theorem Rd.ints {w : World} {b : Nat} {l : List Int} (hb : b < w.heap.size) (h : ∀ i x, l[i]? = some x → w.cell? ⟨b, i, none⟩ = some (.int .i64 x)) : Rd ic 1 w (some ⟨b, 0, none⟩) l := by
 intro i x hi
 refine ⟨b, 0, rfl, hb, fun j u hu => ?_⟩
 match j, hu with
 | 0, hu =>
  obtain rfl : Value.int .i64 x = u := by simpa [ic] using hu
  simpa using h i x hi
theorem Rd.ints2 {w : World} {b : Nat} {n m : Int} (hb : b < w.heap.size) (h0 : w.cell? ⟨b, 0, none⟩ = some (.int .i64 n)) (h1 : w.cell? ⟨b, 1, none⟩ = some (.int .i64 m)) : Rd ic 1 w (some ⟨b, 0, none⟩) [n, m] :=
  Rd.ints hb fun i x hi => by
    match i, hi with
    | 0, hi => obtain rfl : n = x := by simpa using hi
               exact h0
    | 1, hi => obtain rfl : m = x := by simpa using hi
               exact h1
theorem Rd.ints3 {w : World} {b : Nat} {n m p : Int} (hb : b < w.heap.size) (h0 : w.cell? ⟨b, 0, none⟩ = some (.int .i64 n)) (h1 : w.cell? ⟨b, 1, none⟩ = some (.int .i64 m)) (h2 : w.cell? ⟨b, 2, none⟩ = some (.int .i64 p)) : Rd ic 1 w (some ⟨b, 0, none⟩) [n, m, p] :=
  Rd.ints hb fun i x hi => by
    match i, hi with
    | 0, hi => obtain rfl : n = x := by simpa using hi
               exact h0
    | 1, hi => obtain rfl : m = x := by simpa using hi
               exact h1
    | 2, hi => obtain rfl : p = x := by simpa using hi
               exact h2
theorem Z1k (l : List Int) (A : Option Addr) (c : Nat) (w : World) (hl : l.length ≤ maxLen) (h : Rd ic 1 w A l) :
  Calls Tryz.prog 99 #[.slice A l.length c] w (RV w (.int .i64 (Z16 l))) := by
 unfold maxLen at hl
 go_enter Tryz.func99, Tryz.ntmps99
 go_wp2
 go_loop [7] (fun i => ∃ k : Nat, k ≤ l.length ∧ i = .int .i64 k ∧ Hid (Z16 l = Z16 (l.drop k))) (fun i => l.length - (intOf i).toNat)
 case atStart => exact ⟨0, Nat.zero_le _, rfl, rfl⟩
 case round =>
  obtain ⟨k, hk, rfl, H⟩ := hrel; by_cases hlt : k < l.length
  ·obtain ⟨b, off, rfl, hb, hc⟩ := h.int hlt
   have hd := Lib.hid (Z17 hlt)
   go_wp2
   ·have hne : (l[k] != 0) = true := by assumption
    go_ret; refine ⟨Z0a ?_, Z02⟩
    rw [H.out, hd.out, if_neg (by simpa using hne)]
   ·have hne : (l[k] != 0) = false := by assumption
    go_round
    case rel => exact ⟨k + 1, by omega, by go_num, by rw [H.out, hd.out, if_pos (by simpa using hne)]; rfl⟩
    case measure => simp [intOf]; omega
  ·have hkl : k = l.length := by omega
   go_wp2; go_ret; refine ⟨Z0a ?_, Z02⟩
   rw [H.out, hkl, List.drop_length]; rfl
theorem Z1l (x y : Int) (w : World) : Calls Tryz.prog 103 #[.agg #[.int .i64 x, .int .i64 y]] w (RV w (.int .i64 (Z18 x y))) := by
 go_enter Tryz.func103, Tryz.ntmps103
 go_wp2
 refine Z0y [0, 1, 3, 4] [(2, false)] [5, 6, 7, 8] (by kernel_rfl) (by kernel_rfl) (fun d _ _ _ _ h => by cases d <;> exact h) ?_
 simp only [List.map_cons, List.map_nil, List.getD_cons_zero, List.getD_cons_succ]
 repeat (go_big_quiet_step (fail))
 refine wpQuiet_nil ?_
 refine Z10 rfl (fun K hK => ?_)
 go_simp
 refine (Z1j _ _ _ _).mono ?_
 rintro e w1 ⟨rfl, hb1⟩
 refine hK _ _ (by (repeat first|exact J0|assumption|(apply J1;assumption)|apply J2|apply J3|apply J4)) ?_
 clear hK K
 refine Z0z ?_
 go_wp2_with (first | (go_at_call 101; refine (Z1j _ _ _ _).mono ?_; rintro e w2 ⟨rfl, hb2⟩) | (go_at_call 99; go_must (refine (Z1k [Z15 x (-100000) 100000, Z15 y (-100000) 100000] _ _ _ (by simp [maxLen]) (Rd.ints2 (by simp) (by go_simp) (by go_simp))).mono ?_); rintro e w3 ⟨rfl, hb3⟩))
 go_ret
 exact ⟨rfl, by (repeat first|exact J0|assumption|(apply J1;assumption)|apply J2|apply J3|apply J4)⟩
theorem Z1m (x y : Int) : Z18 x y = if farB x || farB y then 3 else 0 := by
 unfold Z18 Z15 farB Z14
 by_cases h1 : (decide (x < -100000) || decide (100000 < x)) = true <;> by_cases h2 : (decide (y < -100000) || decide (100000 < y)) = true <;> simp [h1, h2, Z16]
theorem Z1n (x y : Int) (w : World) :
  Calls Tryz.prog 100 #[.agg #[.int .i64 x, .int .i64 y]] w (RV w (.int .i64 (Z19 x y))) := by
 go_enter Tryz.func100, Tryz.ntmps100
 go_wp2
 refine Z0y [0, 2, 3, 4, 5, 6, 7, 8] [(1, false)] [9, 10, 11, 12] (by kernel_rfl) (by kernel_rfl) (fun d _ _ _ _ h => by cases d <;> exact h) ?_
 simp only [List.map_cons, List.map_nil, List.getD_cons_zero, List.getD_cons_succ]
 repeat (go_big_quiet_step (fail))
 refine wpQuiet_nil ?_
 refine Z10 rfl (fun K hK => ?_)
 go_simp
 refine (Z1l _ _ _).mono ?_
 rintro e w1 ⟨rfl, hb1⟩
 refine hK _ _ (by (repeat first|exact J0|assumption|(apply J1;assumption)|apply J2|apply J3|apply J4)) ?_
 clear hK K
 refine Z0z ?_
 go_wp2_with (first | (go_at_call 102; refine (Z1i _ _ _).mono ?_; rintro e w2 ⟨rfl, hb2⟩) | (go_at_call 99; go_must (refine (Z1k [Z18 x y, Z14 (bits BinOp.and IntKind.i64 (bits BinOp.xor IntKind.i64 x y) 1 != 0) 14] _ _ _ (by simp [maxLen]) (Rd.ints2 (by simp) (by go_simp) (by go_simp))).mono ?_); rintro e w3 ⟨rfl, hb3⟩))
 go_ret
 refine ⟨Z0a ?_, by (repeat first|exact J0|assumption|(apply J1;assumption)|apply J2|apply J3|apply J4)⟩
 rw [Z1h, Z1m]
 unfold Z19 Z14
 by_cases h1 : (farB x || farB y) = true
 ·simp [h1, Z16]
 ·by_cases h2 : (x + y) % 2 = 0 <;> simp [h1, h2, Z16]
abbrev Bar := Int × Int × Int
abbrev Knot := Int × Int
def barE (x y s : Int) : Int := if Z19 x y ≠ 0 then Z19 x y else if s ≠ 1 ∧ s ≠ -1 then 13 else Z19 (x + s) (y + 1)
def cmpI (a b : Int) : Int := if a < b then -1 else if b < a then 1 else 0
def Z1o (x y s x' y' s' : Int) : Int := Z16 [cmpI y y', cmpI x x', cmpI s s']
def Z1p (x y s x' y' s' : Int) : Bool := decide (y < y' ∨ y = y' ∧ (x < x' ∨ x = x' ∧ s < s'))
theorem Z1q (x y s x' y' s' : Int) : decide (0 ≤ Z1o x y s x' y' s') = !Z1p x y s x' y' s' := by
 unfold Z1o Z1p cmpI
 rw [Bool.eq_iff_iff]
 simp only [Z16, Bool.not_eq_true', decide_eq_false_iff_not]
 by_cases h1 : y < y' <;> by_cases h2 : y' < y <;> by_cases h3 : x < x' <;> by_cases h4 : x' < x <;> by_cases h5 : s < s' <;> by_cases h6 : s' < s <;> simp [h1, h2, h3, h4, h5, h6] <;> omega
def Z1r : Option Bar → List Bar → Int
  | _, [] => 0
  | p, b :: r => if barE b.1 b.2.1 b.2.2 ≠ 0 then barE b.1 b.2.1 b.2.2 else
      if (p.map fun q => !Z1p q.1 q.2.1 q.2.2 b.1 b.2.1 b.2.2) = some true then 11 else Z1r (some b) r
def netE (l : List Bar) : Int := if 4096 < l.length then 5 else Z1r none l
def Z1s (l : List Bar) (k : Nat) : Option Bar := if k = 0 then none else l[k - 1]?
theorem Z1t {l : List Bar} {k : Nat} (h : k < l.length) : Z1r (Z1s l k) (l.drop k) =
  if barE l[k].1 l[k].2.1 l[k].2.2 ≠ 0 then barE l[k].1 l[k].2.1 l[k].2.2 else
   if ((Z1s l k).map fun q => !Z1p q.1 q.2.1 q.2.2 l[k].1 l[k].2.1 l[k].2.2) = some true then 11 else Z1r (Z1s l (k + 1)) (l.drop (k + 1)) := by
 rw [List.drop_eq_getElem_cons h]
 have : Z1s l (k + 1) = some l[k] := by simp [Z1s, List.getElem?_eq_getElem h]
 rw [this]; rfl
theorem Z1u {l : List Bar} {k : Nat} (h : k < l.length) (h0 : 0 < k) : Z1s l k = some (l[k - 1]'(by omega)) := by
 rw [Z1s, if_neg (by omega), List.getElem?_eq_getElem]
def bc (b : Bar) : List Value := [.int .i64 b.1, .int .i64 b.2.1, .int .i64 b.2.2]
def kc (k : Knot) : List Value := [.int .i64 k.1, .int .i64 k.2]
theorem Z1v (b : Bar) : (bc b).length = 3 := rfl
theorem Z1w (b : Knot) : (kc b).length = 2 := rfl
theorem Rd.bar {w : World} {A : Option Addr} {l : List Bar} (h : Rd bc 3 w A l) {k : Nat} (hk : k < l.length) : ∃ b off, A = some ⟨b, off, none⟩ ∧ b < w.heap.size ∧
  w.cell? ⟨b, off + k * 3, none⟩ = some (.int .i64 l[k].1) ∧ w.cell? ⟨b, off + k * 3 + 1, none⟩ = some (.int .i64 l[k].2.1) ∧ w.cell? ⟨b, off + k * 3 + 2, none⟩ = some (.int .i64 l[k].2.2) := by
 obtain ⟨b, off, e, hlt, hc⟩ := h k l[k] (List.getElem?_eq_getElem hk)
 exact ⟨b, off, e, hlt, by simpa using hc 0 _ rfl, hc 1 _ rfl, hc 2 _ rfl⟩
theorem Rd.knot {w : World} {A : Option Addr} {l : List Knot} (h : Rd kc 2 w A l) {k : Nat} (hk : k < l.length) : ∃ b off, A = some ⟨b, off, none⟩ ∧ b < w.heap.size ∧
  w.cell? ⟨b, off + k * 2, none⟩ = some (.int .i64 l[k].1) ∧ w.cell? ⟨b, off + k * 2 + 1, none⟩ = some (.int .i64 l[k].2) := by
 obtain ⟨b, off, e, hlt, hc⟩ := h k l[k] (List.getElem?_eq_getElem hk)
 exact ⟨b, off, e, hlt, by simpa using hc 0 _ rfl, hc 1 _ rfl⟩
theorem Rd.barAt {w : World} {b off : Nat} {l : List Bar} (h : Rd bc 3 w (some ⟨b, off, none⟩) l) {k : Nat} (hk : k < l.length) : b < w.heap.size ∧
  w.cell? ⟨b, off + k * 3, none⟩ = some (.int .i64 l[k].1) ∧ w.cell? ⟨b, off + k * 3 + 1, none⟩ = some (.int .i64 l[k].2.1) ∧ w.cell? ⟨b, off + k * 3 + 2, none⟩ = some (.int .i64 l[k].2.2) := by
 obtain ⟨b', off', e, hlt, h1, h2, h3⟩ := h.bar hk
 obtain ⟨rfl, rfl⟩ : b = b' ∧ off = off' := by simpa using e
 exact ⟨hlt, h1, h2, h3⟩
@[go_sem] theorem idx_ends0 (a b c d : Int) (w : World) : (Instr.index 268 (.agg #[.int .i64 a, .int .i64 b, .int .i64 c, .int .i64 d]) (.int .i64 0)).run Tryz.prog w = .ok (.agg #[.int .i64 a, .int .i64 b]) w := by kernel_rfl
@[go_sem] theorem idx_ends1 (a b c d : Int) (w : World) : (Instr.index 268 (.agg #[.int .i64 a, .int .i64 b, .int .i64 c, .int .i64 d]) (.int .i64 1)).run Tryz.prog w = .ok (.agg #[.int .i64 c, .int .i64 d]) w := by kernel_rfl
theorem Z1x {x y : Int} (h : Z19 x y = 0) : -100000 ≤ x ∧ x ≤ 100000 ∧ -100000 ≤ y ∧ y ≤ 100000 ∧ (x + y) % 2 = 0 := by
 unfold Z19 farB at h
 split at h
 ·simp at h
 ·rename_i h1
  simp at h1
  split at h
  ·omega
  ·simp at h
theorem Z1y (n : Int) (w : World) : Calls Tryz.prog 218 #[.int .i64 n] w (RV w (.bool false)) := by
 have h : (n != n) = false := by simp
 go_enter Tryz.func218, Tryz.ntmps218
 go_wp2
 go_ret
 exact ⟨Z0b (by simp), Z02⟩
theorem Z1z (a b : Int) (w : World) : Calls Tryz.prog 198 #[.int .i64 a, .int .i64 b] w (RV w (.int .i64 (cmpI a b))) := by
 go_enter Tryz.func198, Tryz.ntmps198
 go_wp2_with (go_at_call 218; refine (Z1y _ _).mono ?_; rintro e w1 ⟨rfl, hb1⟩)
 all_goals go_ret
 all_goals refine ⟨Z0a ?_, by (repeat first|exact J0|assumption|(apply J1;assumption)|apply J2|apply J3|apply J4)⟩
 ·have h : a < b := by assumption
  simp [cmpI, h]
 ·have h : b < a := by assumption
  have h' : ¬ a < b := by omega
  simp [cmpI, h, h']
 ·have h : b ≤ a := by assumption
  have h'' : a ≤ b := by assumption
  have h1 : ¬ a < b := by omega
  have h2 : ¬ b < a := by omega
  simp [cmpI, h1, h2]
theorem Z20 (l : List Int) (A : Option Addr) (c : Nat) (w : World) (hl : l.length ≤ maxLen) (h : Rd ic 1 w A l) :
  Calls Tryz.prog 197 #[.slice A l.length c] w (RV w (.int .i64 (Z16 l))) := by
 unfold maxLen at hl
 go_enter Tryz.func197, Tryz.ntmps197
 go_wp2
 go_loop [8] (fun i => ∃ k : Nat, k ≤ l.length ∧ i = .int .i64 k ∧ Hid (Z16 l = Z16 (l.drop k))) (fun i => l.length - (intOf i).toNat)
 case atStart => exact ⟨0, Nat.zero_le _, rfl, rfl⟩
 case round =>
  obtain ⟨k, hk, rfl, H⟩ := hrel; by_cases hlt : k < l.length
  ·obtain ⟨b, off, rfl, hb, hc⟩ := h.int hlt
   have hd := Lib.hid (Z17 hlt)
   go_wp2
   ·have hne : (l[k] != 0) = true := by assumption
    go_ret; refine ⟨Z0a ?_, Z02⟩
    rw [H.out, hd.out, if_neg (by simpa using hne)]
   ·have hne : (l[k] != 0) = false := by assumption
    go_round
    case rel => exact ⟨k + 1, by omega, by go_num, by rw [H.out, hd.out, if_pos (by simpa using hne)]; rfl⟩
    case measure => simp [intOf]; omega
  ·have hkl : k = l.length := by omega
   go_wp2; go_ret; refine ⟨Z0a ?_, Z02⟩
   rw [H.out, hkl, List.drop_length]; rfl
theorem Z21 (x y s x' y' s' : Int) (w : World) :
  Calls Tryz.prog 158 #[.agg #[.int .i64 x, .int .i64 y, .int .i64 s], .agg #[.int .i64 x', .int .i64 y', .int .i64 s']] w (RV w (.int .i64 (Z1o x y s x' y' s'))) := by
 go_enter Tryz.func158, Tryz.ntmps158
 go_wp2
 refine Z0y [0, 1, 2, 3, 5, 6, 7, 8, 10, 11, 12, 13] [(4, false), (9, false)] [14, 15, 16, 17] (by kernel_rfl) (by kernel_rfl) (fun d _ _ _ _ h => by cases d <;> exact h) ?_
 simp only [List.map_cons, List.map_nil, List.getD_cons_zero, List.getD_cons_succ]
 repeat (go_big_quiet_step (fail))
 refine wpQuiet_nil ?_
 refine Z10 rfl (fun K hK => ?_)
 go_simp
 refine (Z1z _ _ _).mono ?_
 rintro e w1 ⟨rfl, hb1⟩
 refine hK _ _ (by (repeat first|exact J0|assumption|(apply J1;assumption)|apply J2|apply J3|apply J4)) ?_
 clear hK K
 refine Z10 rfl (fun K hK => ?_)
 go_simp
 refine (Z1z _ _ _).mono ?_
 rintro e w2 ⟨rfl, hb2⟩
 refine hK _ _ (by (repeat first|exact J0|assumption|(apply J1;assumption)|apply J2|apply J3|apply J4)) ?_
 clear hK K
 refine Z0z ?_
 go_wp2_with (first | (go_at_call 198; refine (Z1z _ _ _).mono ?_; rintro e w3 ⟨rfl, hb3⟩) | (go_at_call 197; go_must (refine (Z20 [cmpI y y', cmpI x x', cmpI s s'] _ _ _ (by simp [maxLen]) (Rd.ints3 (by simp) (by go_simp) (by go_simp) (by go_simp))).mono ?_); rintro e w4 ⟨rfl, hb4⟩))
 go_ret
 exact ⟨rfl, by (repeat first|exact J0|assumption|(apply J1;assumption)|apply J2|apply J3|apply J4)⟩
theorem Z22 (x y s : Int) (hx : -1000000 ≤ x ∧ x ≤ 1000000) (hy : -1000000 ≤ y ∧ y ≤ 1000000) (hs : -10 ≤ s ∧ s ≤ 10) (w : World) :
  Calls Tryz.prog 192 #[.agg #[.int .i64 x, .int .i64 y, .int .i64 s]] w (RV w (.agg #[.int .i64 x, .int .i64 y, .int .i64 (x + s), .int .i64 (y + 1)])) := by
 go_enter Tryz.func192, Tryz.ntmps192
 go_wp2
 refine bodyPost_ret (v := .agg #[.int .i64 x, .int .i64 y, .int .i64 (x + s), .int .i64 (y + 1)]) (by simp [results, Tryz.results192, go_sem]) rfl ?_
 exact ⟨rfl, by (repeat first|exact J0|assumption|(apply J1;assumption)|apply J2|apply J3|apply J4)⟩
theorem Z23 {x y s : Int} (h : Z19 x y = 0) (hs : s = 1 ∨ s = -1) : Z19 (x + s) (y + 1) = Z18 (x + s) (y + 1) := by
 obtain ⟨_, _, _, _, hp⟩ := Z1x h
 rw [Z1m]
 unfold Z19
 by_cases h1 : (farB (x + s) || farB (y + 1)) = true
 ·rw [if_pos h1, if_pos h1]
 ·rw [if_neg h1, if_neg h1, if_pos (by omega)]
theorem Z24 (x y s : Int) (w : World) : Calls Tryz.prog 191 #[.agg #[.int .i64 x, .int .i64 y, .int .i64 s]] w (RV w (.int .i64 (barE x y s))) := by
 have hB := Blk.new w 111 #[.int .i64 x, .int .i64 y, .int .i64 s]
 by_cases hs : s = 1 ∨ s = -1
 ·by_cases h0 : Z19 x y = 0
  ·obtain ⟨hx1, hx2, hy1, hy2, hp⟩ := Z1x h0
   have HB : Hid (barE x y s = Z18 (x + s) (y + 1)) := by
    unfold barE; rw [if_neg (by simpa using h0), if_neg (by omega), Z23 h0 hs]; rfl
   have hF : (Z16 [Z19 x y, Z14 false 13] != 0) = false := by simp [h0, Z16, Z14]
   clear h0 hp; rcases hs with rfl | rfl
   all_goals
    go_enter Tryz.func191, Tryz.ntmps191
    go_wp2; refine Z0y [0, 1, 2, 3, 4, 6, 7, 8] [(5, false)] [9, 10, 11, 12, 13, 14, 15, 16, 17] (by kernel_rfl) (by kernel_rfl) (fun d _ _ _ _ h => by cases d <;> exact h) ?_
    simp only [List.map_cons, List.map_nil, List.getD_cons_zero, List.getD_cons_succ]; repeat (go_big_quiet_step (fail))
    refine wpQuiet_nil ?_; refine Z10 rfl (fun K hK => ?_); go_simp; refine (Z1n _ _ _).mono ?_
    rintro e w1 ⟨rfl, hb1⟩; refine hK _ _ (by (repeat first|exact J0|assumption|(apply J1;assumption)|apply J2|apply J3|apply J4)) ?_
    clear hK K; (first | replace hB := hB.st0 hb1 | replace hB := hB.st1 hb1 | replace hB := hB.std hb1 | replace hB := hB.std1 hb1 | replace hB := hB.st2 hb1 | replace hB := hB.std2 hb1 | replace hB := hB.st3 hb1)
    have kB := hB.facts
    refine Z0z ?_; go_wp2_with (first | (go_at_call 102; refine (Z1i _ _ _).mono ?_; rintro e w1 ⟨rfl, hb1⟩; (first | replace hB := hB.st0 hb1 | replace hB := hB.st1 hb1 | replace hB := hB.std hb1 | replace hB := hB.std1 hb1 | replace hB := hB.st2 hb1 | replace hB := hB.std2 hb1 | replace hB := hB.st3 hb1); have kB := hB.facts) | (go_at_call 99; refine (Z1k [Z19 x y, Z14 false 13] _ _ _ (by simp [maxLen]) (Rd.ints2 (by simp) (by go_simp) (by go_simp))).mono ?_; rintro e w1 ⟨rfl, hb1⟩; (first | replace hB := hB.st0 hb1 | replace hB := hB.st1 hb1 | replace hB := hB.std hb1 | replace hB := hB.std1 hb1 | replace hB := hB.st2 hb1 | replace hB := hB.std2 hb1 | replace hB := hB.st3 hb1); have kB := hB.facts) | (go_at_call 192; refine (Z22 _ _ _ (by omega) (by omega) (by omega) _).mono ?_; rintro e w1 ⟨rfl, hb1⟩) | (go_at_call 103; refine (Z1l _ _ _).mono ?_; rintro e w1 ⟨rfl, hb1⟩))
    go_ret; exact ⟨Z0a (by rw [HB.out]), by (repeat first|exact J0|assumption|(apply J1;assumption)|apply J2|apply J3|apply J4)⟩
  ·have HB : Hid (barE x y s = Z16 [Z19 x y, Z14 false 13]) := by unfold barE; rw [if_pos h0]; simp [Z16, h0, Hid]
   have hF : (Z16 [Z19 x y, Z14 false 13] != 0) = true := by simp [h0, Z16]
   clear h0; rcases hs with rfl | rfl
   all_goals
    go_enter Tryz.func191, Tryz.ntmps191
    go_wp2; refine Z0y [0, 1, 2, 3, 4, 6, 7, 8] [(5, false)] [9, 10, 11, 12, 13, 14, 15, 16, 17] (by kernel_rfl) (by kernel_rfl) (fun d _ _ _ _ h => by cases d <;> exact h) ?_
    simp only [List.map_cons, List.map_nil, List.getD_cons_zero, List.getD_cons_succ]; repeat (go_big_quiet_step (fail))
    refine wpQuiet_nil ?_; refine Z10 rfl (fun K hK => ?_); go_simp; refine (Z1n _ _ _).mono ?_
    rintro e w1 ⟨rfl, hb1⟩; refine hK _ _ (by (repeat first|exact J0|assumption|(apply J1;assumption)|apply J2|apply J3|apply J4)) ?_
    clear hK K; (first | replace hB := hB.st0 hb1 | replace hB := hB.st1 hb1 | replace hB := hB.std hb1 | replace hB := hB.std1 hb1 | replace hB := hB.st2 hb1 | replace hB := hB.std2 hb1 | replace hB := hB.st3 hb1)
    have kB := hB.facts
    refine Z0z ?_; go_wp2_with (first | (go_at_call 102; refine (Z1i _ _ _).mono ?_; rintro e w1 ⟨rfl, hb1⟩) | (go_at_call 99; refine (Z1k [Z19 x y, Z14 false 13] _ _ _ (by simp [maxLen]) (Rd.ints2 (by simp) (by go_simp) (by go_simp))).mono ?_; rintro e w1 ⟨rfl, hb1⟩))
    go_ret; exact ⟨Z0a (by rw [HB.out]), by (repeat first|exact J0|assumption|(apply J1;assumption)|apply J2|apply J3|apply J4)⟩
 ·have h1 : (s != 1) = true := by simp; omega
  have h2 : (s != -1) = true := by simp; omega
  have HB : Hid (barE x y s = Z16 [Z19 x y, Z14 true 13]) := by
   unfold barE; by_cases h0 : Z19 x y = 0
   ·rw [if_neg (by simpa using h0), if_pos (by omega)]; simp [Z16, h0, Z14, Hid]
   ·rw [if_pos h0]; simp [Z16, h0, Hid]
  have hF : (Z16 [Z19 x y, Z14 true 13] != 0) = true := by
   by_cases h0 : Z19 x y = 0 <;> simp [h0, Z16, Z14]
  clear hs; go_enter Tryz.func191, Tryz.ntmps191
  go_wp2; refine Z0y [0, 1, 2, 3, 4, 6, 7, 8] [(5, false)] [9, 10, 11, 12, 13, 14, 15, 16, 17] (by kernel_rfl) (by kernel_rfl) (fun d _ _ _ _ h => by cases d <;> exact h) ?_
  simp only [List.map_cons, List.map_nil, List.getD_cons_zero, List.getD_cons_succ]; repeat (go_big_quiet_step (fail))
  refine wpQuiet_nil ?_; refine Z10 rfl (fun K hK => ?_); go_simp; refine (Z1n _ _ _).mono ?_
  rintro e w1 ⟨rfl, hb1⟩; refine hK _ _ (by (repeat first|exact J0|assumption|(apply J1;assumption)|apply J2|apply J3|apply J4)) ?_
  clear hK K; (first | replace hB := hB.st0 hb1 | replace hB := hB.st1 hb1 | replace hB := hB.std hb1 | replace hB := hB.std1 hb1 | replace hB := hB.st2 hb1 | replace hB := hB.std2 hb1 | replace hB := hB.st3 hb1)
  have kB := hB.facts
  refine Z0z ?_; go_wp2_with (first | (go_at_call 102; refine (Z1i _ _ _).mono ?_; rintro e w1 ⟨rfl, hb1⟩) | (go_at_call 99; refine (Z1k [Z19 x y, Z14 true 13] _ _ _ (by simp [maxLen]) (Rd.ints2 (by simp) (by go_simp) (by go_simp))).mono ?_; rintro e w1 ⟨rfl, hb1⟩))
  go_ret; exact ⟨Z0a (by rw [HB.out]), by (repeat first|exact J0|assumption|(apply J1;assumption)|apply J2|apply J3|apply J4)⟩
theorem Z25 {l : List Bar} {k : Nat} (h : k < l.length) (hE : barE l[k].1 l[k].2.1 l[k].2.2 ≠ 0) : Z1r (Z1s l k) (l.drop k) = barE l[k].1 l[k].2.1 l[k].2.2 := by
 rw [Z1t h, if_pos hE]
theorem Z26 {l : List Bar} (h : 0 < l.length) (hE : barE (l[0]'h).1 (l[0]'h).2.1 (l[0]'h).2.2 = 0) : Z1r (Z1s l 0) (l.drop 0) = Z1r (Z1s l (0 + 1)) (l.drop (0 + 1)) := by
 rw [Z1t h, if_neg (by simpa using hE), if_neg (by simp [Z1s])]
theorem Z27 {l : List Bar} {k : Nat} (h : k < l.length) (h0 : 0 < k) (hE : barE l[k].1 l[k].2.1 l[k].2.2 = 0)
  (ho : Z1p (l[k - 1]'(by omega)).1 (l[k - 1]'(by omega)).2.1 (l[k - 1]'(by omega)).2.2 l[k].1 l[k].2.1 l[k].2.2 = false) : Z1r (Z1s l k) (l.drop k) = 11 := by
 rw [Z1t h, if_neg (by simpa using hE), if_pos (by rw [Z1u h h0]; simp [ho])]
theorem Z28 {l : List Bar} {k : Nat} (h : k < l.length) (h0 : 0 < k) (hE : barE l[k].1 l[k].2.1 l[k].2.2 = 0)
  (ho : Z1p (l[k - 1]'(by omega)).1 (l[k - 1]'(by omega)).2.1 (l[k - 1]'(by omega)).2.2 l[k].1 l[k].2.1 l[k].2.2 = true) : Z1r (Z1s l k) (l.drop k) = Z1r (Z1s l (k + 1)) (l.drop (k + 1)) := by
 rw [Z1t h, if_neg (by simpa using hE), if_neg (by rw [Z1u h h0]; simp [ho])]
open Go.ChangeMaps
set_option maxHeartbeats 4000000
abbrev Stp := UInt8 × Bool
abbrev Edg := List UInt8 × Int × Bool
abbrev Pan := List UInt8 × Int × List Edg × List Edg
def Z29 (e : Edg) : List Stp := e.1.map fun c => (c, e.2.2)
def timS (e : Edg) : Nat → List Stp
 | 0 => []
 | n + 1 => timS e n ++ Z29 e
def edgS (e : Edg) : List Stp := timS e e.2.1.toNat
def stpL (l : List Edg) : List Stp := l.flatMap edgS
theorem Z2a (e : Edg) : (Z29 e).length = e.1.length := by unfold Z29; simp
theorem Z2b (e : Edg) : ∀ n, (timS e n).length = n * e.1.length
 | 0 => by simp [timS]
 | n + 1 => by rw [timS, List.length_append, Z2b e n, Z2a, Nat.succ_mul]
theorem Z2c (e : Edg) : (edgS e).length = e.2.1.toNat * e.1.length := Z2b e _
theorem Z2d (e : Edg) (l : List Edg) : stpL (e :: l) = edgS e ++ stpL l := by unfold stpL; simp
theorem Z2e (a b : List Edg) : stpL (a ++ b) = stpL a ++ stpL b := by unfold stpL; simp
theorem Z2f {l : List Edg} {k : Nat} (hk : k < l.length) : stpL (l.take (k + 1)) = stpL (l.take k) ++ edgS l[k] := by
 rw [List.take_succ_eq_append_getElem hk, Z2e]
 simp [stpL]
def Z2g (right : Bool) : Int := if right then 1 else -1
def aft (k : Knot) (c : UInt8) (right : Bool) : Knot := if c = 78 then (k.1, k.2 + 2) else if c = 66 then (k.1 + Z2g right, k.2 + 1) else (k.1 + 2 * Z2g right, k.2)
def Z2h (right : Bool) (k : Knot) (s : Stp) : Knot := aft k s.1 (s.2 == right)
def posK (right : Bool) (k : Knot) (l : List Stp) : Knot := l.foldl (Z2h right) k
def outK (right : Bool) (k : Knot) : List Stp → List Knot
 | [] => [k]
 | s :: r => k :: outK right (Z2h right k s) r
theorem Z2i (right : Bool) (k : Knot) (a b : List Stp) : posK right k (a ++ b) = posK right (posK right k a) b := by unfold posK; rw [List.foldl_append]
theorem Z2j (right : Bool) (k : Knot) (a : List Stp) (s : Stp) : posK right k (a ++ [s]) = Z2h right (posK right k a) s := by rw [Z2i]; rfl
theorem Z2k (right : Bool) : ∀ (l : List Stp) (k : Knot), (outK right k l).length = l.length + 1
 | [], _ => rfl
 | s :: r, k => by rw [outK, List.length_cons, Z2k right r, List.length_cons]
theorem Z2l (right : Bool) : ∀ (l : List Stp) (k : Knot) (s : Stp), outK right k (l ++ [s]) = outK right k l ++ [posK right k (l ++ [s])]
 | [], _, _ => rfl
 | a :: r, k, s => by
  rw [List.cons_append, outK, outK, Z2l right r, List.cons_append]; rfl
theorem Z2m (right : Bool) : ∀ (l : List Stp) (k : Knot) (i : Nat) (h : i < (outK right k l).length), (outK right k l)[i] = posK right k (l.take i)
 | [], k, 0, _ => rfl
 | [], k, i + 1, h => by simp [outK] at h
 | s :: r, k, 0, _ => rfl
 | s :: r, k, i + 1, h => by
  have := Z2m right r (Z2h right k s) i (by simpa [outK] using h)
  simpa [outK, posK] using this
theorem Z2n (right : Bool) (k : Knot) (l : List Stp) : (outK right k l)[l.length]? = some (posK right k l) := by
 have h : l.length < (outK right k l).length := by rw [Z2k]; omega
 rw [List.getElem?_eq_getElem h, Z2m, List.take_length]
theorem Z2o {right : Bool} {k : Knot} {s : Stp} {n : Int} (h : -n ≤ k.1 ∧ k.1 ≤ n ∧ 0 ≤ k.2 ∧ k.2 ≤ n) : -(n + 2) ≤ (Z2h right k s).1 ∧ (Z2h right k s).1 ≤ n + 2 ∧ 0 ≤ (Z2h right k s).2 ∧ (Z2h right k s).2 ≤ n + 2 := by
 unfold Z2h aft Z2g
 split
 ·simp only; omega
 ·split
  ·simp only; split <;> omega
  ·simp only; split <;> omega
theorem Z2p {right : Bool} {n : Int} : ∀ (l : List Stp) {k : Knot} (_ : -n ≤ k.1 ∧ k.1 ≤ n ∧ 0 ≤ k.2 ∧ k.2 ≤ n), -(n + 2 * l.length) ≤ (posK right k l).1 ∧ (posK right k l).1 ≤ n + 2 * l.length ∧ 0 ≤ (posK right k l).2 ∧ (posK right k l).2 ≤ n + 2 * l.length := by
 intro l
 induction l generalizing n with
 | nil => intro k h; simpa [posK] using h
 | cons s r ih =>
  intro k h; have := ih (n := n + 2) (k := Z2h right k s) (Z2o h)
  rw [List.length_cons]; show -(n + 2 * ((r.length + 1 : Nat) : Int)) ≤ (posK right (Z2h right k s) r).1 ∧ _
  simp only [posK] at this ⊢; simp only [List.foldl_cons]; omega
def Z2q (c : UInt8) : Int := if c = 78 then 2 else if c = 66 then 1 else 0
def Z2r (l : List Stp) : Int := (l.map fun s => Z2q s.1).sum
theorem Z2s (a b : List Stp) : Z2r (a ++ b) = Z2r a + Z2r b := by unfold Z2r; simp
theorem Z2t (s : Stp) (b : List Stp) : Z2r (s :: b) = Z2q s.1 + Z2r b := by unfold Z2r; simp
theorem Z2u (c : UInt8) : 0 ≤ Z2q c ∧ Z2q c ≤ 2 := by
 unfold Z2q
 split
 ·omega
 ·split <;> omega
theorem Z2v : ∀ l : List Stp, 0 ≤ Z2r l ∧ Z2r l ≤ 2 * l.length
 | [] => by simp [Z2r]
 | s :: r => by
  have := Z2v r
  have := Z2u s.1
  rw [Z2t, List.length_cons]; omega
theorem Z2w (right : Bool) (k : Knot) (s : Stp) : (Z2h right k s).2 = k.2 + Z2q s.1 := by
 unfold Z2h aft Z2q
 split
 ·rfl
 ·split
  ·rfl
  ·simp
theorem Z2x (right : Bool) : ∀ (l : List Stp) (k : Knot), (posK right k l).2 = k.2 + Z2r l
 | [], k => by simp [posK, Z2r]
 | s :: r, k => by
  have := Z2x right r (Z2h right k s)
  rw [Z2t]; show (posK right (Z2h right k s) r).2 = _
  rw [this, Z2w]; omega
def Z2y (p : Pan) (right : Bool) : List Edg := if right then p.2.2.2 else p.2.2.1
def Z2z (p : Pan) (right : Bool) : Knot := if right then (2 * p.2.1, 0) else (0, 0)
def outP (p : Pan) (right : Bool) : List Knot := outK right (Z2z p right) (stpL (Z2y p right))
def Z30 (p : Pan) : Int := Z2r (stpL p.2.2.1)
def Z31 (w : List UInt8) : Bool := w.any fun c => !(c == 78 || c == 66 || c == 84)
def edgE (e : Edg) : Int := Z16 [Z14 (decide (e.1 = [])) 12, Z14 (decide (64 < e.1.length)) 26, Z14 (Z31 e.1) 1, Z15 e.2.1 1 64]
def Z32 : List Edg → Int → Int
 | [], n => Z14 (decide (512 < n)) 5
 | e :: r, n => if edgE e = 0 then Z32 r (n + e.1.length * e.2.1) else edgE e
def Z33 (l : List Edg) : Int := if 64 < l.length then 5 else Z32 l 0
theorem Z34 {e : Edg} (h : edgE e = 0) : e.1 ≠ [] ∧ e.1.length ≤ 64 ∧ Z31 e.1 = false ∧ 1 ≤ e.2.1 ∧ e.2.1 ≤ 64 := by
 unfold edgE at h
 simp only [Z16] at h
 split at h
 ·rename_i h1
  split at h
  ·rename_i h2
   split at h
   ·rename_i h3
    split at h
    ·rename_i h4
     unfold Z14 at h1 h2 h3; unfold Z15 Z14 at h4; split at h1
     ·omega
     ·split at h2
      ·omega
      ·split at h3
       ·omega
       ·split at h4
        ·omega
        ·rename_i q1 q2 q3 q4
         simp only [decide_eq_true_eq, Bool.or_eq_true, not_or, Bool.not_eq_true] at q1 q2 q3 q4; exact ⟨q1, by omega, q3, by omega, by omega⟩
    ·rename_i h4; exact absurd h h4
   ·rename_i h3; exact absurd h h3
  ·rename_i h2; exact absurd h h2
 ·rename_i h1; exact absurd h h1
theorem Z35 : ∀ (l : List Edg) (n : Int), Z32 l n = 0 → (∀ e ∈ l, edgE e = 0) ∧ n + (stpL l).length ≤ 512
 | [], n, h => by
  unfold Z32 Z14 at h; split at h
  ·omega
  ·rename_i h2
   refine ⟨fun e he => (by cases he), ?_⟩
   simp [stpL] at h2 ⊢
   omega
 | e :: r, n, h => by
  unfold Z32 at h; split at h
  ·rename_i h1
   obtain ⟨i1, i2⟩ := Z35 r _ h
   obtain ⟨q1, q2, q3, q4, q5⟩ := Z34 h1
   refine ⟨fun x hx => ?_, ?_⟩
   ·rcases List.mem_cons.1 hx with rfl | hx
    ·exact h1
    ·exact i1 x hx
   ·rw [Z2d, List.length_append, Z2c]
    obtain ⟨t, ht⟩ : ∃ t : Nat, e.2.1 = t := ⟨e.2.1.toNat, by omega⟩
    rw [ht] at i2 ⊢; rw [Int.toNat_natCast, Nat.mul_comm]; push_cast at i2 ⊢
    omega
  ·rename_i h1; exact absurd h h1
structure Z36 (l : List Edg) : Prop where
 few : l.length ≤ 64
 ok : ∀ e ∈ l, edgE e = 0
 len : (stpL l).length ≤ 512
theorem Z37 {l : List Edg} (h : Z33 l = 0) : Z36 l := by
 unfold Z33 at h
 split at h
 ·omega
 ·obtain ⟨h1, h2⟩ := Z35 l 0 h
  exact ⟨by omega, h1, by omega⟩
end Go.Proofs.YtpcgeihemkhkjaaGreatDoor

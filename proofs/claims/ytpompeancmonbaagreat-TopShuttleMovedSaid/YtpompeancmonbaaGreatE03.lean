/- The checks of chapter 1, walked: each call of the program's and of the reference's checks returns what the plain function of its name says. Conditions: a list no longer than maxLen. -/
import Derived.Test.YtpompeancmonbaaGreatProg
import Derived.Test.YtpompeancmonbaaGreatE02
import Derived.WalkSpells
namespace Go.Proofs.YtpompeancmonbaaGreat
open Go.RowKit
set_option maxHeartbeats 400000
set_option maxRecDepth 100000

/-! ## plain -/
def farB (n : Int) : Bool := decide (n < -100000) || decide (100000 < n)
def whenI (b : Bool) (n : Int) : Int := if b then n else 0
def withinI (n lo hi : Int) : Int := whenI (decide (n < lo) || decide (hi < n)) 3
def firstI : List Int → Int
  | [] => 0
  | x :: r => if x = 0 then firstI r else x
theorem firstI_drop {l : List Int} {k : Nat} (h : k < l.length) : firstI (l.drop k) = if l[k] = 0 then firstI (l.drop (k + 1)) else l[k] := by
  rw [List.drop_eq_getElem_cons h]; rfl
def reachI (x y : Int) : Int := firstI [withinI x (-100000) 100000, withinI y (-100000) 100000]
/-- the error of a knot -/
def knotE (x y : Int) : Int := if farB x || farB y then 3 else if (x + y) % 2 = 0 then 0 else 14

/-! the last bit of a sum, by Go's bits -/
theorem toNat_ofInt64 (z : Int) : ((BitVec.ofInt 64 z).toNat : Int) = z % 18446744073709551616 := by
  rw [BitVec.toNat_ofInt]
  have e : ((2 ^ 64 : Nat) : Int) = 18446744073709551616 := by decide
  rw [e, Int.toNat_of_nonneg (Int.emod_nonneg _ (by decide))]
theorem xor_two (a b : Nat) : (a ^^^ b) % 2 = (a + b) % 2 := by
  have h : (a ^^^ b) % 2 ^ 1 = (a % 2 ^ 1) ^^^ (b % 2 ^ 1) := Nat.xor_mod_two_pow
  rw [Nat.pow_one] at h
  rw [h]
  rcases Nat.mod_two_eq_zero_or_one a with h1 | h1 <;> rcases Nat.mod_two_eq_zero_or_one b with h2 | h2 <;> rw [h1, h2, Nat.add_mod, h1, h2] <;> decide
theorem par_x (x y : Int) : bits .xor .i64 x y = IntKind.i64.wrap (((BitVec.ofInt 64 x).toNat ^^^ (BitVec.ofInt 64 y).toNat : Nat) : Int) :=
  congrArg (fun z : Nat => IntKind.i64.wrap (z : Int)) (BitVec.toNat_xor (BitVec.ofInt 64 x) (BitVec.ofInt 64 y))
theorem par_a (x : Int) : bits .and .i64 x 1 = IntKind.i64.wrap (((BitVec.ofInt 64 x).toNat % 2 : Nat) : Int) :=
  (congrArg (fun z : Nat => IntKind.i64.wrap (z : Int)) (BitVec.toNat_and (BitVec.ofInt 64 x) (BitVec.ofInt 64 1))).trans (by
    rw [show (BitVec.ofInt 64 1).toNat = 1 from rfl, Nat.and_one_is_mod])
theorem mod2_of (z : Int) : (z % 18446744073709551616) % 2 = z % 2 := Int.emod_emod_of_dvd z (by decide)
theorem wrap_bit (n : Nat) (h : n < 2) : IntKind.i64.wrap (n : Int) = n := by
  rcases (by omega : n = 0 ∨ n = 1) with rfl | rfl <;> decide
theorem wrap_two (z : Int) : IntKind.i64.wrap z % 2 = z % 2 := by
  rw [IntKind.wrap_i64, Int.sub_emod, mod2_of, Int.add_emod]
  simp
theorem parity_bits (x y : Int) : bits .and .i64 (bits .xor .i64 x y) 1 = (x + y) % 2 := by
  rw [par_a, par_x, wrap_bit _ (Nat.mod_lt _ (Nat.zero_lt_succ 1)), Int.natCast_emod, toNat_ofInt64]
  show _ % 18446744073709551616 % 2 = _
  rw [mod2_of, wrap_two]
  have h := xor_two (BitVec.ofInt 64 x).toNat (BitVec.ofInt 64 y).toNat
  have h2 : (((BitVec.ofInt 64 x).toNat ^^^ (BitVec.ofInt 64 y).toNat : Nat) : Int) % 2 = (((BitVec.ofInt 64 x).toNat : Int) + ((BitVec.ofInt 64 y).toNat : Int)) % 2 := by
    have := congrArg (Nat.cast : Nat → Int) h
    simpa using this
  rw [h2, toNat_ofInt64, toNat_ofInt64, Int.add_emod, mod2_of, mod2_of, ← Int.add_emod]

theorem far_any (n : Int) (w : World) : Calls Tryz.prog 123 #[.int .i64 n] w (RV w (.bool (farB n))) := by
  go_enter Tryz.func123, Tryz.ntmps123
  go_wp2
  all_goals go_ret
  · exact ⟨rfl, bl_refl⟩
  · exact ⟨ret_bool (by simp [farB, *]), bl_refl⟩

theorem nwhen_any (b : Bool) (n : Int) (w : World) : Calls Tryz.prog 73 #[.bool b, .int .i64 n] w (RV w (.int .i64 (whenI b n))) := by
  cases b
  all_goals
    go_enter Tryz.func73, Tryz.ntmps73
    go_wp2
    go_ret
    exact ⟨rfl, bl_refl⟩

theorem nwithin_any (n lo hi : Int) (w : World) : Calls Tryz.prog 72 #[.int .i64 n, .int .i64 lo, .int .i64 hi] w (RV w (.int .i64 (withinI n lo hi))) := by
  go_enter Tryz.func72, Tryz.ntmps72
  go_wp2_with (go_at_call 73; refine (nwhen_any _ _ _).mono ?_; rintro e w1 ⟨rfl, hb1⟩)
  all_goals go_ret
  · exact ⟨rfl, hb1⟩
  · exact ⟨ret_int (by simp [withinI, *]), hb1⟩

def ic (n : Int) : List Value := [.int .i64 n]
theorem Rd.int {w : World} {A : Option Addr} {l : List Int} (h : Rd ic 1 w A l) {k : Nat} (hk : k < l.length) : ∃ b off, A = some ⟨b, off, none⟩ ∧ b < w.heap.size ∧ w.cell? ⟨b, off + k, none⟩ = some (.int .i64 l[k]) := by
  obtain ⟨b, off, e, hlt, hc⟩ := h k l[k] (List.getElem?_eq_getElem hk)
  exact ⟨b, off, e, hlt, by simpa using hc 0 _ rfl⟩
theorem Rd.ints {w : World} {b : Nat} {l : List Int} (hb : b < w.heap.size) (h : ∀ i x, l[i]? = some x → w.cell? ⟨b, i, none⟩ = some (.int .i64 x)) : Rd ic 1 w (some ⟨b, 0, none⟩) l := by
  intro i x hi
  refine ⟨b, 0, rfl, hb, fun j u hu => ?_⟩
  match j, hu with
  | 0, hu =>
    obtain rfl : Value.int .i64 x = u := by simpa [ic] using hu
    simpa using h i x hi
theorem Rd.ints2 {w : World} {b : Nat} {n m : Int} (hb : b < w.heap.size) (h0 : w.cell? ⟨b, 0, none⟩ = some (.int .i64 n)) (h1 : w.cell? ⟨b, 1, none⟩ = some (.int .i64 m)) : Rd ic 1 w (some ⟨b, 0, none⟩) [n, m] :=
  Rd.ints hb fun i x hi => by
    match i, hi with
    | 0, hi => obtain rfl : n = x := by simpa using hi
               exact h0
    | 1, hi => obtain rfl : m = x := by simpa using hi
               exact h1
theorem Rd.ints3 {w : World} {b : Nat} {n m p : Int} (hb : b < w.heap.size) (h0 : w.cell? ⟨b, 0, none⟩ = some (.int .i64 n)) (h1 : w.cell? ⟨b, 1, none⟩ = some (.int .i64 m)) (h2 : w.cell? ⟨b, 2, none⟩ = some (.int .i64 p)) : Rd ic 1 w (some ⟨b, 0, none⟩) [n, m, p] :=
  Rd.ints hb fun i x hi => by
    match i, hi with
    | 0, hi => obtain rfl : n = x := by simpa using hi
               exact h0
    | 1, hi => obtain rfl : m = x := by simpa using hi
               exact h1
    | 2, hi => obtain rfl : p = x := by simpa using hi
               exact h2

theorem nfirst_any (l : List Int) (A : Option Addr) (c : Nat) (w : World) (hl : l.length ≤ maxLen) (h : Rd ic 1 w A l) :
    Calls Tryz.prog 34 #[.slice A l.length c] w (RV w (.int .i64 (firstI l))) := by
  unfold maxLen at hl
  go_enter Tryz.func34, Tryz.ntmps34
  go_wp2
  go_loop [7] (fun i => ∃ k : Nat, k ≤ l.length ∧ i = .int .i64 k ∧ Hid (firstI l = firstI (l.drop k))) (fun i => l.length - (intOf i).toNat)
  case atStart => exact ⟨0, Nat.zero_le _, rfl, rfl⟩
  case round =>
    obtain ⟨k, hk, rfl, H⟩ := hrel
    by_cases hlt : k < l.length
    · obtain ⟨b, off, rfl, hb, hc⟩ := h.int hlt
      have hd := Lib.hid (firstI_drop hlt)
      go_wp2
      · have hne : (l[k] != 0) = true := by assumption
        go_ret
        refine ⟨ret_int ?_, bl_refl⟩
        rw [H.out, hd.out, if_neg (by simpa using hne)]
      · have hne : (l[k] != 0) = false := by assumption
        go_round
        case rel => exact ⟨k + 1, by omega, by go_num, by rw [H.out, hd.out, if_pos (by simpa using hne)]; rfl⟩
        case measure => simp [intOf]; omega
    · have hkl : k = l.length := by omega
      go_wp2
      go_ret
      refine ⟨ret_int ?_, bl_refl⟩
      rw [H.out, hkl, List.drop_length]; rfl

theorem nreach_any (x y : Int) (w : World) : Calls Tryz.prog 74 #[.agg #[.int .i64 x, .int .i64 y]] w (RV w (.int .i64 (reachI x y))) := by
  go_enter Tryz.func74, Tryz.ntmps74
  go_wp2
  refine wp_region_ords [0, 1, 3, 4] [(2, false)] [5, 6, 7, 8] (by kernel_rfl) (by kernel_rfl) (fun d _ _ _ _ h => by cases d <;> exact h) ?_
  simp only [List.map_cons, List.map_nil, List.getD_cons_zero, List.getD_cons_succ]
  repeat (go_big_quiet_step (fail))
  refine wpQuiet_nil ?_
  refine wpMid_run rfl (fun K hK => ?_)
  go_simp
  refine (nwithin_any _ _ _ _).mono ?_
  rintro e w1 ⟨rfl, hb1⟩
  refine hK _ _ (by (repeat (first | exact bl_refl | assumption | (apply bl_then; assumption) | refine bl_alloc ?_ _ | refine bl_drew ?_ | refine bl_drewN ?_ _))) ?_
  clear hK K
  refine wpMid_nil ?_
  go_wp2_with (first | (go_at_call 72; refine (nwithin_any _ _ _ _).mono ?_; rintro e w2 ⟨rfl, hb2⟩) | (go_at_call 34; go_must (refine (nfirst_any [withinI x (-100000) 100000, withinI y (-100000) 100000] _ _ _ (by simp [maxLen]) (Rd.ints2 (by simp) (by go_simp) (by go_simp))).mono ?_); rintro e w3 ⟨rfl, hb3⟩))
  go_ret
  exact ⟨rfl, by (repeat (first | exact bl_refl | assumption | (apply bl_then; assumption) | refine bl_alloc ?_ _ | refine bl_drew ?_ | refine bl_drewN ?_ _))⟩

theorem reachI_far (x y : Int) : reachI x y = if farB x || farB y then 3 else 0 := by
  unfold reachI withinI farB whenI
  by_cases h1 : (decide (x < -100000) || decide (100000 < x)) = true <;> by_cases h2 : (decide (y < -100000) || decide (100000 < y)) = true <;> simp [h1, h2, firstI]

theorem nknot_any (x y : Int) (w : World) :
    Calls Tryz.prog 36 #[.agg #[.int .i64 x, .int .i64 y]] w (RV w (.int .i64 (knotE x y))) := by
  go_enter Tryz.func36, Tryz.ntmps36
  go_wp2
  refine wp_region_ords [0, 2, 3, 4, 5, 6, 7, 8] [(1, false)] [9, 10, 11, 12] (by kernel_rfl) (by kernel_rfl) (fun d _ _ _ _ h => by cases d <;> exact h) ?_
  simp only [List.map_cons, List.map_nil, List.getD_cons_zero, List.getD_cons_succ]
  repeat (go_big_quiet_step (fail))
  refine wpQuiet_nil ?_
  refine wpMid_run rfl (fun K hK => ?_)
  go_simp
  refine (nreach_any _ _ _).mono ?_
  rintro e w1 ⟨rfl, hb1⟩
  refine hK _ _ (by (repeat (first | exact bl_refl | assumption | (apply bl_then; assumption) | refine bl_alloc ?_ _ | refine bl_drew ?_ | refine bl_drewN ?_ _))) ?_
  clear hK K
  refine wpMid_nil ?_
  go_wp2_with (first | (go_at_call 73; refine (nwhen_any _ _ _).mono ?_; rintro e w2 ⟨rfl, hb2⟩) | (go_at_call 34; go_must (refine (nfirst_any [reachI x y, whenI (bits BinOp.and IntKind.i64 (bits BinOp.xor IntKind.i64 x y) 1 != 0) 14] _ _ _ (by simp [maxLen]) (Rd.ints2 (by simp) (by go_simp) (by go_simp))).mono ?_); rintro e w3 ⟨rfl, hb3⟩))
  go_ret
  refine ⟨ret_int ?_, by (repeat (first | exact bl_refl | assumption | (apply bl_then; assumption) | refine bl_alloc ?_ _ | refine bl_drew ?_ | refine bl_drewN ?_ _))⟩
  rw [parity_bits, reachI_far]
  unfold knotE whenI
  by_cases h1 : (farB x || farB y) = true
  · simp [h1, firstI]
  · by_cases h2 : (x + y) % 2 = 0 <;> simp [h1, h2, firstI]

/-! ## the reference's knots and bars -/
theorem even_any (x y : Int) (hx : -1000000 ≤ x ∧ x ≤ 1000000) (hy : -1000000 ≤ y ∧ y ≤ 1000000) (w : World) :
    Calls Tryz.prog 124 #[.int .i64 x, .int .i64 y] w (RV w (.bool (decide ((x + y) % 2 = 0)))) := by
  go_enter Tryz.func124, Tryz.ntmps124
  go_wp2
  go_ret
  refine ⟨ret_bool ?_, bl_refl⟩
  rw [Bool.eq_iff_iff]
  simp only [beq_iff_eq, decide_eq_true_eq]
  rw [← Int.dvd_iff_tmod_eq_zero, Int.dvd_iff_emod_eq_zero]

theorem farB_false {n : Int} (h : farB n = false) : -100000 ≤ n ∧ n ≤ 100000 := by
  simp [farB] at h; omega
theorem rknot_any (x y : Int) (w : World) :
    Calls Tryz.prog 85 #[.agg #[.int .i64 x, .int .i64 y]] w (RV w (.int .i64 (knotE x y))) := by
  by_cases h1 : farB x = true
  · go_enter Tryz.func85, Tryz.ntmps85
    go_wp2_with (go_at_call 123; refine (far_any _ _).mono ?_; rintro e w1 ⟨rfl, hb1⟩)
    go_ret
    exact ⟨ret_int (by simp [knotE, h1]), by (repeat (first | exact bl_refl | assumption | (apply bl_then; assumption) | refine bl_alloc ?_ _ | refine bl_drew ?_ | refine bl_drewN ?_ _))⟩
  · have h1' : farB x = false := by simpa using h1
    by_cases h2 : farB y = true
    · go_enter Tryz.func85, Tryz.ntmps85
      go_wp2_with (go_at_call 123; refine (far_any _ _).mono ?_; rintro e w1 ⟨rfl, hb1⟩; obtain ⟨hc1, hf1, hz1⟩ := bcell hb1)
      go_ret
      exact ⟨ret_int (by simp [knotE, h1, h2]), by (repeat (first | exact bl_refl | assumption | (apply bl_then; assumption) | refine bl_alloc ?_ _ | refine bl_drew ?_ | refine bl_drewN ?_ _))⟩
    · have h2' : farB y = false := by simpa using h2
      have hx := farB_false h1'
      have hy := farB_false h2'
      by_cases h3 : (x + y) % 2 = 0
      · have h3' : decide ((x + y) % 2 = 0) = true := by simpa using h3
        go_enter Tryz.func85, Tryz.ntmps85
        go_wp2_with (first | (go_at_call 123; refine (far_any _ _).mono ?_; rintro e w1 ⟨rfl, hb1⟩; obtain ⟨hc1, hf1, hz1⟩ := bcell hb1) | (go_at_call 124; refine (even_any _ _ (by omega) (by omega) _).mono ?_; rintro e w3 ⟨rfl, hb3⟩))
        go_ret
        exact ⟨ret_int (by simp [knotE, h1', h2', h3]), by (repeat (first | exact bl_refl | assumption | (apply bl_then; assumption) | refine bl_alloc ?_ _ | refine bl_drew ?_ | refine bl_drewN ?_ _))⟩
      · have h3' : decide ((x + y) % 2 = 0) = false := by simpa using h3
        go_enter Tryz.func85, Tryz.ntmps85
        go_wp2_with (first | (go_at_call 123; refine (far_any _ _).mono ?_; rintro e w1 ⟨rfl, hb1⟩; obtain ⟨hc1, hf1, hz1⟩ := bcell hb1) | (go_at_call 124; refine (even_any _ _ (by omega) (by omega) _).mono ?_; rintro e w3 ⟨rfl, hb3⟩))
        go_ret
        exact ⟨ret_int (by simp [knotE, h1', h2', h3]), by (repeat (first | exact bl_refl | assumption | (apply bl_then; assumption) | refine bl_alloc ?_ _ | refine bl_drew ?_ | refine bl_drewN ?_ _))⟩
end Go.Proofs.YtpompeancmonbaaGreat

/- The checks of bars and nets of chapter 1, walked, the program's and the reference's. Conditions: bars' parts are whole numbers of 64 bits; a net's slice reads as a list. -/
import Derived.Test.YtpompeancmonbaaGreatE03
namespace Go.Proofs.YtpompeancmonbaaGreat
open Go.RowKit
set_option maxHeartbeats 400000
set_option maxRecDepth 100000

/-! ## plain -/
abbrev Bar := Int × Int × Int
abbrev Knot := Int × Int
/-- the error of a bar -/
def barE (x y s : Int) : Int := if knotE x y ≠ 0 then knotE x y else if s ≠ 1 ∧ s ≠ -1 then 13 else knotE (x + s) (y + 1)
def cmpI (a b : Int) : Int := if a < b then -1 else if b < a then 1 else 0
def barCmp (x y s x' y' s' : Int) : Int := firstI [cmpI y y', cmpI x x', cmpI s s']
def barLt (x y s x' y' s' : Int) : Bool := decide (y < y' ∨ y = y' ∧ (x < x' ∨ x = x' ∧ s < s'))
theorem barCmp_lt (x y s x' y' s' : Int) : decide (0 ≤ barCmp x y s x' y' s') = !barLt x y s x' y' s' := by
  unfold barCmp barLt cmpI
  rw [Bool.eq_iff_iff]
  simp only [firstI, Bool.not_eq_true', decide_eq_false_iff_not]
  by_cases h1 : y < y' <;> by_cases h2 : y' < y <;> by_cases h3 : x < x' <;> by_cases h4 : x' < x <;> by_cases h5 : s < s' <;> by_cases h6 : s' < s <;> simp [h1, h2, h3, h4, h5, h6] <;> omega
/-- the error of a net's bars from one on, the bar before known -/
def netGo : Option Bar → List Bar → Int
  | _, [] => 0
  | p, b :: r => if barE b.1 b.2.1 b.2.2 ≠ 0 then barE b.1 b.2.1 b.2.2 else
      if (p.map fun q => !barLt q.1 q.2.1 q.2.2 b.1 b.2.1 b.2.2) = some true then 11 else netGo (some b) r
def netE (l : List Bar) : Int := if 4096 < l.length then 5 else netGo none l
def prevB (l : List Bar) (k : Nat) : Option Bar := if k = 0 then none else l[k - 1]?
theorem netGo_drop {l : List Bar} {k : Nat} (h : k < l.length) : netGo (prevB l k) (l.drop k) =
    if barE l[k].1 l[k].2.1 l[k].2.2 ≠ 0 then barE l[k].1 l[k].2.1 l[k].2.2 else
      if ((prevB l k).map fun q => !barLt q.1 q.2.1 q.2.2 l[k].1 l[k].2.1 l[k].2.2) = some true then 11 else netGo (prevB l (k + 1)) (l.drop (k + 1)) := by
  rw [List.drop_eq_getElem_cons h]
  have : prevB l (k + 1) = some l[k] := by simp [prevB, List.getElem?_eq_getElem h]
  rw [this]; rfl
theorem prevB_pos {l : List Bar} {k : Nat} (h : k < l.length) (h0 : 0 < k) : prevB l k = some (l[k - 1]'(by omega)) := by
  rw [prevB, if_neg (by omega), List.getElem?_eq_getElem]

/-! ## cells of bars and knots -/
def bc (b : Bar) : List Value := [.int .i64 b.1, .int .i64 b.2.1, .int .i64 b.2.2]
def kc (k : Knot) : List Value := [.int .i64 k.1, .int .i64 k.2]
theorem bc_len (b : Bar) : (bc b).length = 3 := rfl
theorem kc_len (b : Knot) : (kc b).length = 2 := rfl
theorem Rd.bar {w : World} {A : Option Addr} {l : List Bar} (h : Rd bc 3 w A l) {k : Nat} (hk : k < l.length) : ∃ b off, A = some ⟨b, off, none⟩ ∧ b < w.heap.size ∧
    w.cell? ⟨b, off + k * 3, none⟩ = some (.int .i64 l[k].1) ∧ w.cell? ⟨b, off + k * 3 + 1, none⟩ = some (.int .i64 l[k].2.1) ∧ w.cell? ⟨b, off + k * 3 + 2, none⟩ = some (.int .i64 l[k].2.2) := by
  obtain ⟨b, off, e, hlt, hc⟩ := h k l[k] (List.getElem?_eq_getElem hk)
  exact ⟨b, off, e, hlt, by simpa using hc 0 _ rfl, hc 1 _ rfl, hc 2 _ rfl⟩
theorem Rd.knot {w : World} {A : Option Addr} {l : List Knot} (h : Rd kc 2 w A l) {k : Nat} (hk : k < l.length) : ∃ b off, A = some ⟨b, off, none⟩ ∧ b < w.heap.size ∧
    w.cell? ⟨b, off + k * 2, none⟩ = some (.int .i64 l[k].1) ∧ w.cell? ⟨b, off + k * 2 + 1, none⟩ = some (.int .i64 l[k].2) := by
  obtain ⟨b, off, e, hlt, hc⟩ := h k l[k] (List.getElem?_eq_getElem hk)
  exact ⟨b, off, e, hlt, by simpa using hc 0 _ rfl, hc 1 _ rfl⟩

theorem Rd.barAt {w : World} {b off : Nat} {l : List Bar} (h : Rd bc 3 w (some ⟨b, off, none⟩) l) {k : Nat} (hk : k < l.length) : b < w.heap.size ∧
    w.cell? ⟨b, off + k * 3, none⟩ = some (.int .i64 l[k].1) ∧ w.cell? ⟨b, off + k * 3 + 1, none⟩ = some (.int .i64 l[k].2.1) ∧ w.cell? ⟨b, off + k * 3 + 2, none⟩ = some (.int .i64 l[k].2.2) := by
  obtain ⟨b', off', e, hlt, h1, h2, h3⟩ := h.bar hk
  obtain ⟨rfl, rfl⟩ : b = b' ∧ off = off' := by simpa using e
  exact ⟨hlt, h1, h2, h3⟩
theorem Rd.knotAt {w : World} {b off : Nat} {l : List Knot} (h : Rd kc 2 w (some ⟨b, off, none⟩) l) {k : Nat} (hk : k < l.length) : b < w.heap.size ∧
    w.cell? ⟨b, off + k * 2, none⟩ = some (.int .i64 l[k].1) ∧ w.cell? ⟨b, off + k * 2 + 1, none⟩ = some (.int .i64 l[k].2) := by
  obtain ⟨b', off', e, hlt, h1, h2⟩ := h.knot hk
  obtain ⟨rfl, rfl⟩ : b = b' ∧ off = off' := by simpa using e
  exact ⟨hlt, h1, h2⟩

/-- an end out of two -/
@[go_sem] theorem idx_ends0 (a b c d : Int) (w : World) : (Instr.index 115 (.agg #[.int .i64 a, .int .i64 b, .int .i64 c, .int .i64 d]) (.int .i64 0)).run Tryz.prog w = .ok (.agg #[.int .i64 a, .int .i64 b]) w := by kernel_rfl
@[go_sem] theorem idx_ends1 (a b c d : Int) (w : World) : (Instr.index 115 (.agg #[.int .i64 a, .int .i64 b, .int .i64 c, .int .i64 d]) (.int .i64 1)).run Tryz.prog w = .ok (.agg #[.int .i64 c, .int .i64 d]) w := by kernel_rfl

/-! ## walks -/
theorem rlower_any (x y s : Int) (w : World) : Calls Tryz.prog 86 #[.agg #[.int .i64 x, .int .i64 y, .int .i64 s]] w (RV w (.agg #[.int .i64 x, .int .i64 y])) := by
  go_enter Tryz.func86, Tryz.ntmps86
  go_wp2
  refine bodyPost_ret (v := .agg #[.int .i64 x, .int .i64 y]) (by simp [results, Tryz.results86, go_sem]) rfl ?_
  exact ⟨rfl, by (repeat (first | exact bl_refl | assumption | (apply bl_then; assumption) | refine bl_alloc ?_ _ | refine bl_drew ?_ | refine bl_drewN ?_ _))⟩
theorem rupper_any (x y s : Int) (hx : -1000000 ≤ x ∧ x ≤ 1000000) (hy : -1000000 ≤ y ∧ y ≤ 1000000) (hs : -10 ≤ s ∧ s ≤ 10) (w : World) :
    Calls Tryz.prog 87 #[.agg #[.int .i64 x, .int .i64 y, .int .i64 s]] w (RV w (.agg #[.int .i64 (x + s), .int .i64 (y + 1)])) := by
  go_enter Tryz.func87, Tryz.ntmps87
  go_wp2
  refine bodyPost_ret (v := .agg #[.int .i64 (x + s), .int .i64 (y + 1)]) (by simp [results, Tryz.results87, go_sem]) rfl ?_
  exact ⟨rfl, by (repeat (first | exact bl_refl | assumption | (apply bl_then; assumption) | refine bl_alloc ?_ _ | refine bl_drew ?_ | refine bl_drewN ?_ _))⟩
theorem knotE_zero {x y : Int} (h : knotE x y = 0) : -100000 ≤ x ∧ x ≤ 100000 ∧ -100000 ≤ y ∧ y ≤ 100000 ∧ (x + y) % 2 = 0 := by
  unfold knotE farB at h
  split at h
  · simp at h
  · rename_i h1
    simp at h1
    split at h
    · omega
    · simp at h
theorem rless_any (x y s x' y' s' : Int) (w : World) :
    Calls Tryz.prog 43 #[.agg #[.int .i64 x, .int .i64 y, .int .i64 s], .agg #[.int .i64 x', .int .i64 y', .int .i64 s']] w (RV w (.bool (barLt x y s x' y' s'))) := by
  go_enter Tryz.func43, Tryz.ntmps43
  go_wp2
  · have h1 : (y != y') = true := by assumption
    go_ret
    refine ⟨ret_bool ?_, by (repeat (first | exact bl_refl | assumption | (apply bl_then; assumption) | refine bl_alloc ?_ _ | refine bl_drew ?_ | refine bl_drewN ?_ _))⟩
    simp at h1
    unfold barLt
    exact dec_eq (by omega)
  · have h1 : (y != y') = false := by assumption
    have h2 : (x != x') = true := by assumption
    go_ret
    refine ⟨ret_bool ?_, by (repeat (first | exact bl_refl | assumption | (apply bl_then; assumption) | refine bl_alloc ?_ _ | refine bl_drew ?_ | refine bl_drewN ?_ _))⟩
    simp at h1 h2
    unfold barLt
    exact dec_eq (by omega)
  · have h1 : (y != y') = false := by assumption
    have h2 : (x != x') = false := by assumption
    go_ret
    refine ⟨ret_bool ?_, by (repeat (first | exact bl_refl | assumption | (apply bl_then; assumption) | refine bl_alloc ?_ _ | refine bl_drew ?_ | refine bl_drewN ?_ _))⟩
    simp at h1 h2
    unfold barLt
    exact dec_eq (by omega)
theorem rbar_any (x y s : Int) (w : World) : Calls Tryz.prog 42 #[.agg #[.int .i64 x, .int .i64 y, .int .i64 s]] w (RV w (.int .i64 (barE x y s))) := by
  by_cases h0 : knotE x y = 0
  · obtain ⟨hx1, hx2, hy1, hy2, hp⟩ := knotE_zero h0
    have h0' : (knotE x y == 0) = true := by simpa using h0
    have hB : barE x y s = if s ≠ 1 ∧ s ≠ -1 then 13 else knotE (x + s) (y + 1) := by unfold barE; rw [if_neg (by simpa using h0)]
    have HB := Lib.hid hB
    have H0 := Lib.hid h0
    clear hB h0 hp
    by_cases h1 : s = 1
    · subst h1
      go_enter Tryz.func42, Tryz.ntmps42
      go_wp2_with (first | (go_at_call 86; refine (rlower_any _ _ _ _).mono ?_; rintro e w1 ⟨rfl, hb1⟩; obtain ⟨hc1, hf1, hz1⟩ := bcell hb1) | (go_at_call 87; refine (rupper_any _ _ _ (by omega) (by omega) (by omega) _).mono ?_; rintro e w1 ⟨rfl, hb1⟩; obtain ⟨hc1, hf1, hz1⟩ := bcell hb1) | (go_at_call 85; refine (rknot_any _ _ _).mono ?_; rintro e w1 ⟨rfl, hb1⟩; obtain ⟨hc1, hf1, hz1⟩ := bcell hb1))
      go_ret
      exact ⟨ret_int (by rw [HB.out]; simp), by (repeat (first | exact bl_refl | assumption | (apply bl_then; assumption) | refine bl_alloc ?_ _ | refine bl_drew ?_ | refine bl_drewN ?_ _))⟩
    · by_cases h2 : s = -1
      · subst h2
        go_enter Tryz.func42, Tryz.ntmps42
        go_wp2_with (first | (go_at_call 86; refine (rlower_any _ _ _ _).mono ?_; rintro e w1 ⟨rfl, hb1⟩; obtain ⟨hc1, hf1, hz1⟩ := bcell hb1) | (go_at_call 87; refine (rupper_any _ _ _ (by omega) (by omega) (by omega) _).mono ?_; rintro e w1 ⟨rfl, hb1⟩; obtain ⟨hc1, hf1, hz1⟩ := bcell hb1) | (go_at_call 85; refine (rknot_any _ _ _).mono ?_; rintro e w1 ⟨rfl, hb1⟩; obtain ⟨hc1, hf1, hz1⟩ := bcell hb1))
        go_ret
        exact ⟨ret_int (by rw [HB.out]; simp), by (repeat (first | exact bl_refl | assumption | (apply bl_then; assumption) | refine bl_alloc ?_ _ | refine bl_drew ?_ | refine bl_drewN ?_ _))⟩
      · have h1' : (s != 1) = true := by simpa using h1
        have h2' : (s != -1) = true := by simpa using h2
        have HC : Hid (barE x y s = 13) := by rw [HB.out, if_pos ⟨h1, h2⟩]; rfl
        clear h1 h2
        go_enter Tryz.func42, Tryz.ntmps42
        go_wp2_with (first | (go_at_call 86; refine (rlower_any _ _ _ _).mono ?_; rintro e w1 ⟨rfl, hb1⟩; obtain ⟨hc1, hf1, hz1⟩ := bcell hb1) | (go_at_call 85; refine (rknot_any _ _ _).mono ?_; rintro e w1 ⟨rfl, hb1⟩; obtain ⟨hc1, hf1, hz1⟩ := bcell hb1))
        go_ret
        exact ⟨ret_int (by rw [HC.out]), by (repeat (first | exact bl_refl | assumption | (apply bl_then; assumption) | refine bl_alloc ?_ _ | refine bl_drew ?_ | refine bl_drewN ?_ _))⟩
  · have h0' : (knotE x y == 0) = false := by simpa using h0
    have HB : Hid (barE x y s = knotE x y) := by unfold barE; rw [if_pos h0]; rfl
    clear h0
    go_enter Tryz.func42, Tryz.ntmps42
    go_wp2_with (first | (go_at_call 86; refine (rlower_any _ _ _ _).mono ?_; rintro e w1 ⟨rfl, hb1⟩; obtain ⟨hc1, hf1, hz1⟩ := bcell hb1) | (go_at_call 85; refine (rknot_any _ _ _).mono ?_; rintro e w1 ⟨rfl, hb1⟩; obtain ⟨hc1, hf1, hz1⟩ := bcell hb1))
    go_ret
    exact ⟨ret_int (by rw [HB.out]), by (repeat (first | exact bl_refl | assumption | (apply bl_then; assumption) | refine bl_alloc ?_ _ | refine bl_drew ?_ | refine bl_drewN ?_ _))⟩

theorem isNaN_any (n : Int) (w : World) : Calls Tryz.prog 135 #[.int .i64 n] w (RV w (.bool false)) := by
  have h : (n != n) = false := by simp
  go_enter Tryz.func135, Tryz.ntmps135
  go_wp2
  go_ret
  exact ⟨ret_bool (by simp), bl_refl⟩
theorem cmp_any (a b : Int) (w : World) : Calls Tryz.prog 110 #[.int .i64 a, .int .i64 b] w (RV w (.int .i64 (cmpI a b))) := by
  go_enter Tryz.func110, Tryz.ntmps110
  go_wp2_with (go_at_call 135; refine (isNaN_any _ _).mono ?_; rintro e w1 ⟨rfl, hb1⟩)
  all_goals go_ret
  all_goals refine ⟨ret_int ?_, by (repeat (first | exact bl_refl | assumption | (apply bl_then; assumption) | refine bl_alloc ?_ _ | refine bl_drew ?_ | refine bl_drewN ?_ _))⟩
  · have h : a < b := by assumption
    simp [cmpI, h]
  · have h : b < a := by assumption
    have h' : ¬ a < b := by omega
    simp [cmpI, h, h']
  · have h : b ≤ a := by assumption
    have h'' : a ≤ b := by assumption
    have h1 : ¬ a < b := by omega
    have h2 : ¬ b < a := by omega
    simp [cmpI, h1, h2]

theorem or_any (l : List Int) (A : Option Addr) (c : Nat) (w : World) (hl : l.length ≤ maxLen) (h : Rd ic 1 w A l) :
    Calls Tryz.prog 109 #[.slice A l.length c] w (RV w (.int .i64 (firstI l))) := by
  unfold maxLen at hl
  go_enter Tryz.func109, Tryz.ntmps109
  go_wp2
  go_loop [8] (fun i => ∃ k : Nat, k ≤ l.length ∧ i = .int .i64 k ∧ Hid (firstI l = firstI (l.drop k))) (fun i => l.length - (intOf i).toNat)
  case atStart => exact ⟨0, Nat.zero_le _, rfl, rfl⟩
  case round =>
    obtain ⟨k, hk, rfl, H⟩ := hrel
    by_cases hlt : k < l.length
    · obtain ⟨b, off, rfl, hb, hc⟩ := h.int hlt
      have hd := Lib.hid (firstI_drop hlt)
      go_wp2
      · have hne : (l[k] != 0) = true := by assumption
        go_ret
        refine ⟨ret_int ?_, bl_refl⟩
        rw [H.out, hd.out, if_neg (by simpa using hne)]
      · have hne : (l[k] != 0) = false := by assumption
        go_round
        case rel => exact ⟨k + 1, by omega, by go_num, by rw [H.out, hd.out, if_pos (by simpa using hne)]; rfl⟩
        case measure => simp [intOf]; omega
    · have hkl : k = l.length := by omega
      go_wp2
      go_ret
      refine ⟨ret_int ?_, bl_refl⟩
      rw [H.out, hkl, List.drop_length]; rfl

theorem ncompare_any (x y s x' y' s' : Int) (w : World) :
    Calls Tryz.prog 82 #[.agg #[.int .i64 x, .int .i64 y, .int .i64 s], .agg #[.int .i64 x', .int .i64 y', .int .i64 s']] w (RV w (.int .i64 (barCmp x y s x' y' s'))) := by
  go_enter Tryz.func82, Tryz.ntmps82
  go_wp2
  refine wp_region_ords [0, 1, 2, 3, 5, 6, 7, 8, 10, 11, 12, 13] [(4, false), (9, false)] [14, 15, 16, 17] (by kernel_rfl) (by kernel_rfl) (fun d _ _ _ _ h => by cases d <;> exact h) ?_
  simp only [List.map_cons, List.map_nil, List.getD_cons_zero, List.getD_cons_succ]
  repeat (go_big_quiet_step (fail))
  refine wpQuiet_nil ?_
  refine wpMid_run rfl (fun K hK => ?_)
  go_simp
  refine (cmp_any _ _ _).mono ?_
  rintro e w1 ⟨rfl, hb1⟩
  refine hK _ _ (by (repeat (first | exact bl_refl | assumption | (apply bl_then; assumption) | refine bl_alloc ?_ _ | refine bl_drew ?_ | refine bl_drewN ?_ _))) ?_
  clear hK K
  refine wpMid_run rfl (fun K hK => ?_)
  go_simp
  refine (cmp_any _ _ _).mono ?_
  rintro e w2 ⟨rfl, hb2⟩
  refine hK _ _ (by (repeat (first | exact bl_refl | assumption | (apply bl_then; assumption) | refine bl_alloc ?_ _ | refine bl_drew ?_ | refine bl_drewN ?_ _))) ?_
  clear hK K
  refine wpMid_nil ?_
  go_wp2_with (first | (go_at_call 110; refine (cmp_any _ _ _).mono ?_; rintro e w3 ⟨rfl, hb3⟩) | (go_at_call 109; go_must (refine (or_any [cmpI y y', cmpI x x', cmpI s s'] _ _ _ (by simp [maxLen]) (Rd.ints3 (by simp) (by go_simp) (by go_simp) (by go_simp))).mono ?_); rintro e w4 ⟨rfl, hb4⟩))
  go_ret
  exact ⟨rfl, by (repeat (first | exact bl_refl | assumption | (apply bl_then; assumption) | refine bl_alloc ?_ _ | refine bl_drew ?_ | refine bl_drewN ?_ _))⟩

theorem nends_any (x y s : Int) (hx : -1000000 ≤ x ∧ x ≤ 1000000) (hy : -1000000 ≤ y ∧ y ≤ 1000000) (hs : -10 ≤ s ∧ s ≤ 10) (w : World) :
    Calls Tryz.prog 83 #[.agg #[.int .i64 x, .int .i64 y, .int .i64 s]] w (RV w (.agg #[.int .i64 x, .int .i64 y, .int .i64 (x + s), .int .i64 (y + 1)])) := by
  go_enter Tryz.func83, Tryz.ntmps83
  go_wp2
  refine bodyPost_ret (v := .agg #[.int .i64 x, .int .i64 y, .int .i64 (x + s), .int .i64 (y + 1)]) (by simp [results, Tryz.results83, go_sem]) rfl ?_
  exact ⟨rfl, by (repeat (first | exact bl_refl | assumption | (apply bl_then; assumption) | refine bl_alloc ?_ _ | refine bl_drew ?_ | refine bl_drewN ?_ _))⟩

theorem knotE_step {x y s : Int} (h : knotE x y = 0) (hs : s = 1 ∨ s = -1) : knotE (x + s) (y + 1) = reachI (x + s) (y + 1) := by
  obtain ⟨_, _, _, _, hp⟩ := knotE_zero h
  rw [reachI_far]
  unfold knotE
  by_cases h1 : (farB (x + s) || farB (y + 1)) = true
  · rw [if_pos h1, if_pos h1]
  · rw [if_neg h1, if_neg h1, if_pos (by omega)]

theorem nbar_any (x y s : Int) (w : World) : Calls Tryz.prog 81 #[.agg #[.int .i64 x, .int .i64 y, .int .i64 s]] w (RV w (.int .i64 (barE x y s))) := by
  have hB := Blk.new w 46 #[.int .i64 x, .int .i64 y, .int .i64 s]
  by_cases hs : s = 1 ∨ s = -1
  · by_cases h0 : knotE x y = 0
    · obtain ⟨hx1, hx2, hy1, hy2, hp⟩ := knotE_zero h0
      have HB : Hid (barE x y s = reachI (x + s) (y + 1)) := by
        unfold barE; rw [if_neg (by simpa using h0), if_neg (by omega), knotE_step h0 hs]; rfl
      have hF : (firstI [knotE x y, whenI false 13] != 0) = false := by simp [h0, firstI, whenI]
      clear h0 hp
      rcases hs with rfl | rfl
      all_goals
        go_enter Tryz.func81, Tryz.ntmps81
        go_wp2
        refine wp_region_ords [0, 1, 2, 3, 4, 6, 7, 8] [(5, false)] [9, 10, 11, 12, 13, 14, 15, 16, 17] (by kernel_rfl) (by kernel_rfl) (fun d _ _ _ _ h => by cases d <;> exact h) ?_
        simp only [List.map_cons, List.map_nil, List.getD_cons_zero, List.getD_cons_succ]
        repeat (go_big_quiet_step (fail))
        refine wpQuiet_nil ?_
        refine wpMid_run rfl (fun K hK => ?_)
        go_simp
        refine (nknot_any _ _ _).mono ?_
        rintro e w1 ⟨rfl, hb1⟩
        refine hK _ _ (by (repeat (first | exact bl_refl | assumption | (apply bl_then; assumption) | refine bl_alloc ?_ _ | refine bl_drew ?_ | refine bl_drewN ?_ _))) ?_
        clear hK K
        (first | replace hB := hB.st0 hb1 | replace hB := hB.st1 hb1 | replace hB := hB.std hb1 | replace hB := hB.std1 hb1 | replace hB := hB.st2 hb1 | replace hB := hB.std2 hb1 | replace hB := hB.st3 hb1)
        have kB := hB.facts
        refine wpMid_nil ?_
        go_wp2_with (first | (go_at_call 73; refine (nwhen_any _ _ _).mono ?_; rintro e w1 ⟨rfl, hb1⟩; (first | replace hB := hB.st0 hb1 | replace hB := hB.st1 hb1 | replace hB := hB.std hb1 | replace hB := hB.std1 hb1 | replace hB := hB.st2 hb1 | replace hB := hB.std2 hb1 | replace hB := hB.st3 hb1); have kB := hB.facts) | (go_at_call 34; refine (nfirst_any [knotE x y, whenI false 13] _ _ _ (by simp [maxLen]) (Rd.ints2 (by simp) (by go_simp) (by go_simp))).mono ?_; rintro e w1 ⟨rfl, hb1⟩; (first | replace hB := hB.st0 hb1 | replace hB := hB.st1 hb1 | replace hB := hB.std hb1 | replace hB := hB.std1 hb1 | replace hB := hB.st2 hb1 | replace hB := hB.std2 hb1 | replace hB := hB.st3 hb1); have kB := hB.facts) | (go_at_call 83; refine (nends_any _ _ _ (by omega) (by omega) (by omega) _).mono ?_; rintro e w1 ⟨rfl, hb1⟩) | (go_at_call 74; refine (nreach_any _ _ _).mono ?_; rintro e w1 ⟨rfl, hb1⟩))
        go_ret
        exact ⟨ret_int (by rw [HB.out]), by (repeat (first | exact bl_refl | assumption | (apply bl_then; assumption) | refine bl_alloc ?_ _ | refine bl_drew ?_ | refine bl_drewN ?_ _))⟩
    · have HB : Hid (barE x y s = firstI [knotE x y, whenI false 13]) := by unfold barE; rw [if_pos h0]; simp [firstI, h0, Hid]
      have hF : (firstI [knotE x y, whenI false 13] != 0) = true := by simp [h0, firstI]
      clear h0
      rcases hs with rfl | rfl
      all_goals
        go_enter Tryz.func81, Tryz.ntmps81
        go_wp2
        refine wp_region_ords [0, 1, 2, 3, 4, 6, 7, 8] [(5, false)] [9, 10, 11, 12, 13, 14, 15, 16, 17] (by kernel_rfl) (by kernel_rfl) (fun d _ _ _ _ h => by cases d <;> exact h) ?_
        simp only [List.map_cons, List.map_nil, List.getD_cons_zero, List.getD_cons_succ]
        repeat (go_big_quiet_step (fail))
        refine wpQuiet_nil ?_
        refine wpMid_run rfl (fun K hK => ?_)
        go_simp
        refine (nknot_any _ _ _).mono ?_
        rintro e w1 ⟨rfl, hb1⟩
        refine hK _ _ (by (repeat (first | exact bl_refl | assumption | (apply bl_then; assumption) | refine bl_alloc ?_ _ | refine bl_drew ?_ | refine bl_drewN ?_ _))) ?_
        clear hK K
        (first | replace hB := hB.st0 hb1 | replace hB := hB.st1 hb1 | replace hB := hB.std hb1 | replace hB := hB.std1 hb1 | replace hB := hB.st2 hb1 | replace hB := hB.std2 hb1 | replace hB := hB.st3 hb1)
        have kB := hB.facts
        refine wpMid_nil ?_
        go_wp2_with (first | (go_at_call 73; refine (nwhen_any _ _ _).mono ?_; rintro e w1 ⟨rfl, hb1⟩) | (go_at_call 34; refine (nfirst_any [knotE x y, whenI false 13] _ _ _ (by simp [maxLen]) (Rd.ints2 (by simp) (by go_simp) (by go_simp))).mono ?_; rintro e w1 ⟨rfl, hb1⟩))
        go_ret
        exact ⟨ret_int (by rw [HB.out]), by (repeat (first | exact bl_refl | assumption | (apply bl_then; assumption) | refine bl_alloc ?_ _ | refine bl_drew ?_ | refine bl_drewN ?_ _))⟩
  · have h1 : (s != 1) = true := by simp; omega
    have h2 : (s != -1) = true := by simp; omega
    have HB : Hid (barE x y s = firstI [knotE x y, whenI true 13]) := by
      unfold barE
      by_cases h0 : knotE x y = 0
      · rw [if_neg (by simpa using h0), if_pos (by omega)]; simp [firstI, h0, whenI, Hid]
      · rw [if_pos h0]; simp [firstI, h0, Hid]
    have hF : (firstI [knotE x y, whenI true 13] != 0) = true := by
      by_cases h0 : knotE x y = 0 <;> simp [h0, firstI, whenI]
    clear hs
    go_enter Tryz.func81, Tryz.ntmps81
    go_wp2
    refine wp_region_ords [0, 1, 2, 3, 4, 6, 7, 8] [(5, false)] [9, 10, 11, 12, 13, 14, 15, 16, 17] (by kernel_rfl) (by kernel_rfl) (fun d _ _ _ _ h => by cases d <;> exact h) ?_
    simp only [List.map_cons, List.map_nil, List.getD_cons_zero, List.getD_cons_succ]
    repeat (go_big_quiet_step (fail))
    refine wpQuiet_nil ?_
    refine wpMid_run rfl (fun K hK => ?_)
    go_simp
    refine (nknot_any _ _ _).mono ?_
    rintro e w1 ⟨rfl, hb1⟩
    refine hK _ _ (by (repeat (first | exact bl_refl | assumption | (apply bl_then; assumption) | refine bl_alloc ?_ _ | refine bl_drew ?_ | refine bl_drewN ?_ _))) ?_
    clear hK K
    (first | replace hB := hB.st0 hb1 | replace hB := hB.st1 hb1 | replace hB := hB.std hb1 | replace hB := hB.std1 hb1 | replace hB := hB.st2 hb1 | replace hB := hB.std2 hb1 | replace hB := hB.st3 hb1)
    have kB := hB.facts
    refine wpMid_nil ?_
    go_wp2_with (first | (go_at_call 73; refine (nwhen_any _ _ _).mono ?_; rintro e w1 ⟨rfl, hb1⟩) | (go_at_call 34; refine (nfirst_any [knotE x y, whenI true 13] _ _ _ (by simp [maxLen]) (Rd.ints2 (by simp) (by go_simp) (by go_simp))).mono ?_; rintro e w1 ⟨rfl, hb1⟩))
    go_ret
    exact ⟨ret_int (by rw [HB.out]), by (repeat (first | exact bl_refl | assumption | (apply bl_then; assumption) | refine bl_alloc ?_ _ | refine bl_drew ?_ | refine bl_drewN ?_ _))⟩

theorem netGo_err {l : List Bar} {k : Nat} (h : k < l.length) (hE : barE l[k].1 l[k].2.1 l[k].2.2 ≠ 0) : netGo (prevB l k) (l.drop k) = barE l[k].1 l[k].2.1 l[k].2.2 := by
  rw [netGo_drop h, if_pos hE]
theorem netGo_first {l : List Bar} (h : 0 < l.length) (hE : barE (l[0]'h).1 (l[0]'h).2.1 (l[0]'h).2.2 = 0) : netGo (prevB l 0) (l.drop 0) = netGo (prevB l (0 + 1)) (l.drop (0 + 1)) := by
  rw [netGo_drop h, if_neg (by simpa using hE), if_neg (by simp [prevB])]
theorem netGo_late {l : List Bar} {k : Nat} (h : k < l.length) (h0 : 0 < k) (hE : barE l[k].1 l[k].2.1 l[k].2.2 = 0)
    (ho : barLt (l[k - 1]'(by omega)).1 (l[k - 1]'(by omega)).2.1 (l[k - 1]'(by omega)).2.2 l[k].1 l[k].2.1 l[k].2.2 = false) : netGo (prevB l k) (l.drop k) = 11 := by
  rw [netGo_drop h, if_neg (by simpa using hE), if_pos (by rw [prevB_pos h h0]; simp [ho])]
theorem netGo_next {l : List Bar} {k : Nat} (h : k < l.length) (h0 : 0 < k) (hE : barE l[k].1 l[k].2.1 l[k].2.2 = 0)
    (ho : barLt (l[k - 1]'(by omega)).1 (l[k - 1]'(by omega)).2.1 (l[k - 1]'(by omega)).2.2 l[k].1 l[k].2.1 l[k].2.2 = true) : netGo (prevB l k) (l.drop k) = netGo (prevB l (k + 1)) (l.drop (k + 1)) := by
  rw [netGo_drop h, if_neg (by simpa using hE), if_neg (by rw [prevB_pos h h0]; simp [ho])]

theorem rnet_any (l : List Bar) (A : Option Addr) (c : Nat) (w : World) (hl : l.length ≤ maxLen) (h : Rd bc 3 w A l) :
    Calls Tryz.prog 11 #[.slice A l.length c] w (RV w (.int .i64 (netE l))) := by
  unfold maxLen at hl
  by_cases hbig : 4096 < l.length
  · have HB : Hid (netE l = 5) := by unfold netE; rw [if_pos hbig]; rfl
    go_enter Tryz.func11, Tryz.ntmps11
    go_wp2
    go_ret
    exact ⟨ret_int (by rw [HB.out]), by (repeat (first | exact bl_refl | assumption | (apply bl_then; assumption) | refine bl_alloc ?_ _ | refine bl_drew ?_ | refine bl_drewN ?_ _))⟩
  · have HB : Hid (netE l = netGo none l) := by unfold netE; rw [if_neg hbig]; rfl
    go_enter Tryz.func11, Tryz.ntmps11
    go_wp2
    go_loopw [3] (fun i wr => ∃ k : Nat, k ≤ l.length ∧ i = .int .i64 k ∧ Hid (netE l = netGo (prevB l k) (l.drop k)) ∧ Below w.heap.size w wr) (fun i _ => l.length - (intOf i).toNat)
    case atStart => exact ⟨0, Nat.zero_le _, rfl, HB, bl_refl⟩
    case round =>
      obtain ⟨k, hk, rfl, H, hbw⟩ := hrel
      by_cases hlt : k < l.length
      · have hr := h.below hbw
        obtain ⟨b, off, rfl, hb, e0, e1, e2⟩ := hr.bar hlt
        by_cases hE : barE l[k].1 l[k].2.1 l[k].2.2 = 0
        · have hE' : (barE l[k].1 l[k].2.1 l[k].2.2 != 0) = false := by simp [hE]
          by_cases h0 : 0 < k
          · have hk1 : 1 ≤ k := h0
            obtain ⟨lt, hlt2⟩ : ∃ lt, barLt (l[k - 1]'(by omega)).1 (l[k - 1]'(by omega)).2.1 (l[k - 1]'(by omega)).2.2 l[k].1 l[k].2.1 l[k].2.2 = lt := ⟨_, rfl⟩
            have HN : Hid (netGo (prevB l k) (l.drop k) = if lt = true then netGo (prevB l (k + 1)) (l.drop (k + 1)) else 11) := by
              cases lt
              · rw [netGo_late hlt h0 hE hlt2]; rfl
              · rw [netGo_next hlt h0 hE hlt2]; rfl
            clear hE
            cases lt
            · go_wp2_with (first | (go_at_call 42; refine (rbar_any _ _ _ _).mono ?_; rintro e w1 ⟨rfl, hb1⟩; (first | replace hr := hr.st0 hb1 | replace hr := hr.st1 hb1 | replace hr := hr.std hb1 | replace hr := hr.std1 hb1 | replace hr := hr.st2 hb1 | replace hr := hr.std2 hb1 | replace hr := hr.st3 hb1)))
              have f1 := hr.barAt hlt
              have f2 := hr.barAt (k := k - 1) (by omega)
              refine wp_region_ords [0, 1, 2, 3, 4, 5, 6, 7, 8, 9, 10, 11] [] [12, 13, 14] (by kernel_rfl) (by kernel_rfl) (fun d _ _ _ _ h => by cases d <;> exact h) ?_
              simp only [List.map_cons, List.map_nil, List.getD_cons_zero, List.getD_cons_succ]
              repeat (go_big_quiet_step (fail))
              refine wpQuiet_nil ?_
              refine wpMid_nil ?_
              go_wp2_with (first | (go_at_call 43; refine (rless_any _ _ _ _ _ _ _).mono ?_; rintro e w1 ⟨rfl, hb1⟩))
              go_ret
              exact ⟨ret_int (by rw [H.out, HN.out]; rfl), by (repeat (first | exact bl_refl | assumption | (apply bl_then; assumption) | refine bl_alloc ?_ _ | refine bl_drew ?_ | refine bl_drewN ?_ _))⟩
            · go_wp2_with (first | (go_at_call 42; refine (rbar_any _ _ _ _).mono ?_; rintro e w1 ⟨rfl, hb1⟩; (first | replace hr := hr.st0 hb1 | replace hr := hr.st1 hb1 | replace hr := hr.std hb1 | replace hr := hr.std1 hb1 | replace hr := hr.st2 hb1 | replace hr := hr.std2 hb1 | replace hr := hr.st3 hb1)))
              have f1 := hr.barAt hlt
              have f2 := hr.barAt (k := k - 1) (by omega)
              refine wp_region_ords [0, 1, 2, 3, 4, 5, 6, 7, 8, 9, 10, 11] [] [12, 13, 14] (by kernel_rfl) (by kernel_rfl) (fun d _ _ _ _ h => by cases d <;> exact h) ?_
              simp only [List.map_cons, List.map_nil, List.getD_cons_zero, List.getD_cons_succ]
              repeat (go_big_quiet_step (fail))
              refine wpQuiet_nil ?_
              refine wpMid_nil ?_
              go_wp2_with (first | (go_at_call 43; refine (rless_any _ _ _ _ _ _ _).mono ?_; rintro e w1 ⟨rfl, hb1⟩))
              go_roundw
              case rel => exact ⟨k + 1, by omega, by go_num, by rw [H.out, HN.out]; rfl, by (repeat (first | exact bl_refl | assumption | (apply bl_then; assumption) | refine bl_alloc ?_ _ | refine bl_drew ?_ | refine bl_drewN ?_ _))⟩
              case measure => simp [intOf]; omega
          · have hk0 : k = 0 := by omega
            have HN : Hid (netGo (prevB l k) (l.drop k) = netGo (prevB l (k + 1)) (l.drop (k + 1))) := by
              subst hk0; exact netGo_first hlt hE
            clear hk0 hE
            have h0' : decide (0 < k) = false := by simpa using h0
            go_wp2_with (first | (go_at_call 42; refine (rbar_any _ _ _ _).mono ?_; rintro e w1 ⟨rfl, hb1⟩))
            refine wp_region_ords [0, 1, 2, 3, 4, 5, 6, 7, 8, 9, 10, 11] [] [12, 13, 14] (by kernel_rfl) (by kernel_rfl) (fun d _ _ _ _ h => by cases d <;> exact h) ?_
            simp only [List.map_cons, List.map_nil, List.getD_cons_zero, List.getD_cons_succ]
            repeat (go_big_quiet_step (fail))
            refine wpQuiet_nil ?_
            refine wpMid_nil ?_
            go_wp2
            go_roundw
            case rel => exact ⟨k + 1, by omega, by go_num, by rw [H.out, HN.out]; rfl, by (repeat (first | exact bl_refl | assumption | (apply bl_then; assumption) | refine bl_alloc ?_ _ | refine bl_drew ?_ | refine bl_drewN ?_ _))⟩
            case measure => simp [intOf]; omega
        · have hE' : (barE l[k].1 l[k].2.1 l[k].2.2 != 0) = true := by simp [hE]
          have HN := Lib.hid (netGo_err hlt hE)
          clear hE
          go_wp2_with (first | (go_at_call 42; refine (rbar_any _ _ _ _).mono ?_; rintro e w1 ⟨rfl, hb1⟩))
          go_ret
          exact ⟨ret_int (by rw [H.out, HN.out]), by (repeat (first | exact bl_refl | assumption | (apply bl_then; assumption) | refine bl_alloc ?_ _ | refine bl_drew ?_ | refine bl_drewN ?_ _))⟩
      · have hkl : k = l.length := by omega
        go_wp2
        go_ret
        refine ⟨ret_int ?_, by (repeat (first | exact bl_refl | assumption | (apply bl_then; assumption) | refine bl_alloc ?_ _ | refine bl_drew ?_ | refine bl_drewN ?_ _))⟩
        rw [H.out, hkl, List.drop_length]; rfl
end Go.Proofs.YtpompeancmonbaaGreat

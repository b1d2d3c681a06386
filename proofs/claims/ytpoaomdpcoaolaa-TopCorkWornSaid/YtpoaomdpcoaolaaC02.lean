/- The checks of bars and nets of chapter 1, walked, the program's and the reference's. Conditions: bars' parts are whole numbers of 64 bits; a net's slice reads as a list. -/
import Derived.Test.YtpoaomdpcoaolaaC01
import Derived.ChangeMaps4
import Derived.MapKept
import Derived.WideKeyEntry
namespace Go.Proofs.Ytpoaomdpcoaolaa
open Go.RowKit
set_option maxHeartbeats 400000
set_option maxRecDepth 100000

/-! ## plain -/
abbrev Bar := Int × Int × Int
abbrev Knot := Int × Int
/-- the error of a bar -/
def barE (x y s : Int) : Int := if knotE x y ≠ 0 then knotE x y else if s ≠ 1 ∧ s ≠ -1 then 13 else knotE (x + s) (y + 1)
def cmpI (a b : Int) : Int := if a < b then -1 else if b < a then 1 else 0
def barCmp (x y s x' y' s' : Int) : Int := firstI [cmpI y y', cmpI x x', cmpI s s']
def barLt (x y s x' y' s' : Int) : Bool := decide (y < y' ∨ y = y' ∧ (x < x' ∨ x = x' ∧ s < s'))
theorem barCmp_lt (x y s x' y' s' : Int) : decide (0 ≤ barCmp x y s x' y' s') = !barLt x y s x' y' s' := by
  unfold barCmp barLt cmpI
  rw [Bool.eq_iff_iff]
  simp only [firstI, Bool.not_eq_true', decide_eq_false_iff_not]
  by_cases h1 : y < y' <;> by_cases h2 : y' < y <;> by_cases h3 : x < x' <;> by_cases h4 : x' < x <;> by_cases h5 : s < s' <;> by_cases h6 : s' < s <;> simp [h1, h2, h3, h4, h5, h6] <;> omega
/-- the error of a net's bars from one on, the bar before known -/
def netGo : Option Bar → List Bar → Int
  | _, [] => 0
  | p, b :: r => if barE b.1 b.2.1 b.2.2 ≠ 0 then barE b.1 b.2.1 b.2.2 else
      if (p.map fun q => !barLt q.1 q.2.1 q.2.2 b.1 b.2.1 b.2.2) = some true then 11 else netGo (some b) r
def netE (l : List Bar) : Int := if 4096 < l.length then 5 else netGo none l
def prevB (l : List Bar) (k : Nat) : Option Bar := if k = 0 then none else l[k - 1]?
theorem netGo_drop {l : List Bar} {k : Nat} (h : k < l.length) : netGo (prevB l k) (l.drop k) =
    if barE l[k].1 l[k].2.1 l[k].2.2 ≠ 0 then barE l[k].1 l[k].2.1 l[k].2.2 else
      if ((prevB l k).map fun q => !barLt q.1 q.2.1 q.2.2 l[k].1 l[k].2.1 l[k].2.2) = some true then 11 else netGo (prevB l (k + 1)) (l.drop (k + 1)) := by
  rw [List.drop_eq_getElem_cons h]
  have : prevB l (k + 1) = some l[k] := by simp [prevB, List.getElem?_eq_getElem h]
  rw [this]; rfl
theorem prevB_pos {l : List Bar} {k : Nat} (h : k < l.length) (h0 : 0 < k) : prevB l k = some (l[k - 1]'(by omega)) := by
  rw [prevB, if_neg (by omega), List.getElem?_eq_getElem]

/-! ## cells of bars and knots -/
def bc (b : Bar) : List Value := [.int .i64 b.1, .int .i64 b.2.1, .int .i64 b.2.2]
def kc (k : Knot) : List Value := [.int .i64 k.1, .int .i64 k.2]
theorem bc_len (b : Bar) : (bc b).length = 3 := rfl
theorem kc_len (b : Knot) : (kc b).length = 2 := rfl
theorem Rd.bar {w : World} {A : Option Addr} {l : List Bar} (h : Rd bc 3 w A l) {k : Nat} (hk : k < l.length) : ∃ b off, A = some ⟨b, off, none⟩ ∧ b < w.heap.size ∧
    w.cell? ⟨b, off + k * 3, none⟩ = some (.int .i64 l[k].1) ∧ w.cell? ⟨b, off + k * 3 + 1, none⟩ = some (.int .i64 l[k].2.1) ∧ w.cell? ⟨b, off + k * 3 + 2, none⟩ = some (.int .i64 l[k].2.2) := by
  obtain ⟨b, off, e, hlt, hc⟩ := h k l[k] (List.getElem?_eq_getElem hk)
  exact ⟨b, off, e, hlt, by simpa using hc 0 _ rfl, hc 1 _ rfl, hc 2 _ rfl⟩
theorem Rd.knot {w : World} {A : Option Addr} {l : List Knot} (h : Rd kc 2 w A l) {k : Nat} (hk : k < l.length) : ∃ b off, A = some ⟨b, off, none⟩ ∧ b < w.heap.size ∧
    w.cell? ⟨b, off + k * 2, none⟩ = some (.int .i64 l[k].1) ∧ w.cell? ⟨b, off + k * 2 + 1, none⟩ = some (.int .i64 l[k].2) := by
  obtain ⟨b, off, e, hlt, hc⟩ := h k l[k] (List.getElem?_eq_getElem hk)
  exact ⟨b, off, e, hlt, by simpa using hc 0 _ rfl, hc 1 _ rfl⟩

theorem Rd.barAt {w : World} {b off : Nat} {l : List Bar} (h : Rd bc 3 w (some ⟨b, off, none⟩) l) {k : Nat} (hk : k < l.length) : b < w.heap.size ∧
    w.cell? ⟨b, off + k * 3, none⟩ = some (.int .i64 l[k].1) ∧ w.cell? ⟨b, off + k * 3 + 1, none⟩ = some (.int .i64 l[k].2.1) ∧ w.cell? ⟨b, off + k * 3 + 2, none⟩ = some (.int .i64 l[k].2.2) := by
  obtain ⟨b', off', e, hlt, h1, h2, h3⟩ := h.bar hk
  obtain ⟨rfl, rfl⟩ : b = b' ∧ off = off' := by simpa using e
  exact ⟨hlt, h1, h2, h3⟩
theorem Rd.knotAt {w : World} {b off : Nat} {l : List Knot} (h : Rd kc 2 w (some ⟨b, off, none⟩) l) {k : Nat} (hk : k < l.length) : b < w.heap.size ∧
    w.cell? ⟨b, off + k * 2, none⟩ = some (.int .i64 l[k].1) ∧ w.cell? ⟨b, off + k * 2 + 1, none⟩ = some (.int .i64 l[k].2) := by
  obtain ⟨b', off', e, hlt, h1, h2⟩ := h.knot hk
  obtain ⟨rfl, rfl⟩ : b = b' ∧ off = off' := by simpa using e
  exact ⟨hlt, h1, h2⟩

/-- an end out of two -/
@[go_sem] theorem idx_ends0 (a b c d : Int) (w : World) : (Instr.index 81 (.agg #[.int .i64 a, .int .i64 b, .int .i64 c, .int .i64 d]) (.int .i64 0)).run Try.prog w = .ok (.agg #[.int .i64 a, .int .i64 b]) w := by kernel_rfl
@[go_sem] theorem idx_ends1 (a b c d : Int) (w : World) : (Instr.index 81 (.agg #[.int .i64 a, .int .i64 b, .int .i64 c, .int .i64 d]) (.int .i64 1)).run Try.prog w = .ok (.agg #[.int .i64 c, .int .i64 d]) w := by kernel_rfl

/-! ## walks -/
theorem rlower_any (x y s : Int) (w : World) : Calls Try.prog 56 #[.agg #[.int .i64 x, .int .i64 y, .int .i64 s]] w (RV w (.agg #[.int .i64 x, .int .i64 y])) := by
  go_enter Try.func56, Try.ntmps56
  go_wp2
  refine bodyPost_ret (v := .agg #[.int .i64 x, .int .i64 y]) (by simp [results, Try.results56, go_sem]) rfl ?_
  exact ⟨rfl, by (repeat (first | exact bl_refl | assumption | (apply bl_then; assumption) | refine bl_alloc ?_ _ | refine bl_drew ?_ | refine bl_drewN ?_ _))⟩
theorem rupper_any (x y s : Int) (hx : -1000000 ≤ x ∧ x ≤ 1000000) (hy : -1000000 ≤ y ∧ y ≤ 1000000) (hs : -10 ≤ s ∧ s ≤ 10) (w : World) :
    Calls Try.prog 57 #[.agg #[.int .i64 x, .int .i64 y, .int .i64 s]] w (RV w (.agg #[.int .i64 (x + s), .int .i64 (y + 1)])) := by
  go_enter Try.func57, Try.ntmps57
  go_wp2
  refine bodyPost_ret (v := .agg #[.int .i64 (x + s), .int .i64 (y + 1)]) (by simp [results, Try.results57, go_sem]) rfl ?_
  exact ⟨rfl, by (repeat (first | exact bl_refl | assumption | (apply bl_then; assumption) | refine bl_alloc ?_ _ | refine bl_drew ?_ | refine bl_drewN ?_ _))⟩
theorem knotE_zero {x y : Int} (h : knotE x y = 0) : -100000 ≤ x ∧ x ≤ 100000 ∧ -100000 ≤ y ∧ y ≤ 100000 ∧ (x + y) % 2 = 0 := by
  unfold knotE farB at h
  split at h
  · simp at h
  · rename_i h1
    simp at h1
    split at h
    · omega
    · simp at h
theorem rless_any (x y s x' y' s' : Int) (w : World) :
    Calls Try.prog 39 #[.agg #[.int .i64 x, .int .i64 y, .int .i64 s], .agg #[.int .i64 x', .int .i64 y', .int .i64 s']] w (RV w (.bool (barLt x y s x' y' s'))) := by
  go_enter Try.func39, Try.ntmps39
  go_wp2
  · have h1 : (y != y') = true := by assumption
    go_ret
    refine ⟨ret_bool ?_, by (repeat (first | exact bl_refl | assumption | (apply bl_then; assumption) | refine bl_alloc ?_ _ | refine bl_drew ?_ | refine bl_drewN ?_ _))⟩
    simp at h1
    unfold barLt
    exact dec_eq (by omega)
  · have h1 : (y != y') = false := by assumption
    have h2 : (x != x') = true := by assumption
    go_ret
    refine ⟨ret_bool ?_, by (repeat (first | exact bl_refl | assumption | (apply bl_then; assumption) | refine bl_alloc ?_ _ | refine bl_drew ?_ | refine bl_drewN ?_ _))⟩
    simp at h1 h2
    unfold barLt
    exact dec_eq (by omega)
  · have h1 : (y != y') = false := by assumption
    have h2 : (x != x') = false := by assumption
    go_ret
    refine ⟨ret_bool ?_, by (repeat (first | exact bl_refl | assumption | (apply bl_then; assumption) | refine bl_alloc ?_ _ | refine bl_drew ?_ | refine bl_drewN ?_ _))⟩
    simp at h1 h2
    unfold barLt
    exact dec_eq (by omega)
theorem rbar_any (x y s : Int) (w : World) : Calls Try.prog 38 #[.agg #[.int .i64 x, .int .i64 y, .int .i64 s]] w (RV w (.int .i64 (barE x y s))) := by
  by_cases h0 : knotE x y = 0
  · obtain ⟨hx1, hx2, hy1, hy2, hp⟩ := knotE_zero h0
    have h0' : (knotE x y == 0) = true := by simpa using h0
    have hB : barE x y s = if s ≠ 1 ∧ s ≠ -1 then 13 else knotE (x + s) (y + 1) := by unfold barE; rw [if_neg (by simpa using h0)]
    have HB := Lib.hid hB
    have H0 := Lib.hid h0
    clear hB h0 hp
    by_cases h1 : s = 1
    · subst h1
      go_enter Try.func38, Try.ntmps38
      go_wp2_with (first | (go_at_call 56; refine (rlower_any _ _ _ _).mono ?_; rintro e w1 ⟨rfl, hb1⟩; obtain ⟨hc1, hf1, hz1⟩ := bcell hb1) | (go_at_call 57; refine (rupper_any _ _ _ (by omega) (by omega) (by omega) _).mono ?_; rintro e w1 ⟨rfl, hb1⟩; obtain ⟨hc1, hf1, hz1⟩ := bcell hb1) | (go_at_call 30; refine (rknot_any _ _ _).mono ?_; rintro e w1 ⟨rfl, hb1⟩; obtain ⟨hc1, hf1, hz1⟩ := bcell hb1))
      go_ret
      exact ⟨ret_int (by rw [HB.out]; simp), by (repeat (first | exact bl_refl | assumption | (apply bl_then; assumption) | refine bl_alloc ?_ _ | refine bl_drew ?_ | refine bl_drewN ?_ _))⟩
    · by_cases h2 : s = -1
      · subst h2
        go_enter Try.func38, Try.ntmps38
        go_wp2_with (first | (go_at_call 56; refine (rlower_any _ _ _ _).mono ?_; rintro e w1 ⟨rfl, hb1⟩; obtain ⟨hc1, hf1, hz1⟩ := bcell hb1) | (go_at_call 57; refine (rupper_any _ _ _ (by omega) (by omega) (by omega) _).mono ?_; rintro e w1 ⟨rfl, hb1⟩; obtain ⟨hc1, hf1, hz1⟩ := bcell hb1) | (go_at_call 30; refine (rknot_any _ _ _).mono ?_; rintro e w1 ⟨rfl, hb1⟩; obtain ⟨hc1, hf1, hz1⟩ := bcell hb1))
        go_ret
        exact ⟨ret_int (by rw [HB.out]; simp), by (repeat (first | exact bl_refl | assumption | (apply bl_then; assumption) | refine bl_alloc ?_ _ | refine bl_drew ?_ | refine bl_drewN ?_ _))⟩
      · have h1' : (s != 1) = true := by simpa using h1
        have h2' : (s != -1) = true := by simpa using h2
        have HC : Hid (barE x y s = 13) := by rw [HB.out, if_pos ⟨h1, h2⟩]; rfl
        clear h1 h2
        go_enter Try.func38, Try.ntmps38
        go_wp2_with (first | (go_at_call 56; refine (rlower_any _ _ _ _).mono ?_; rintro e w1 ⟨rfl, hb1⟩; obtain ⟨hc1, hf1, hz1⟩ := bcell hb1) | (go_at_call 30; refine (rknot_any _ _ _).mono ?_; rintro e w1 ⟨rfl, hb1⟩; obtain ⟨hc1, hf1, hz1⟩ := bcell hb1))
        go_ret
        exact ⟨ret_int (by rw [HC.out]), by (repeat (first | exact bl_refl | assumption | (apply bl_then; assumption) | refine bl_alloc ?_ _ | refine bl_drew ?_ | refine bl_drewN ?_ _))⟩
  · have h0' : (knotE x y == 0) = false := by simpa using h0
    have HB : Hid (barE x y s = knotE x y) := by unfold barE; rw [if_pos h0]; rfl
    clear h0
    go_enter Try.func38, Try.ntmps38
    go_wp2_with (first | (go_at_call 56; refine (rlower_any _ _ _ _).mono ?_; rintro e w1 ⟨rfl, hb1⟩; obtain ⟨hc1, hf1, hz1⟩ := bcell hb1) | (go_at_call 30; refine (rknot_any _ _ _).mono ?_; rintro e w1 ⟨rfl, hb1⟩; obtain ⟨hc1, hf1, hz1⟩ := bcell hb1))
    go_ret
    exact ⟨ret_int (by rw [HB.out]), by (repeat (first | exact bl_refl | assumption | (apply bl_then; assumption) | refine bl_alloc ?_ _ | refine bl_drew ?_ | refine bl_drewN ?_ _))⟩

theorem isNaN_any (n : Int) (w : World) : Calls Try.prog 63 #[.int .i64 n] w (RV w (.bool false)) := by
  have h : (n != n) = false := by simp
  go_enter Try.func63, Try.ntmps63
  go_wp2
  go_ret
  exact ⟨ret_bool (by simp), bl_refl⟩
theorem cmp_any (a b : Int) (w : World) : Calls Try.prog 50 #[.int .i64 a, .int .i64 b] w (RV w (.int .i64 (cmpI a b))) := by
  go_enter Try.func50, Try.ntmps50
  go_wp2_with (go_at_call 63; refine (isNaN_any _ _).mono ?_; rintro e w1 ⟨rfl, hb1⟩)
  all_goals go_ret
  all_goals refine ⟨ret_int ?_, by (repeat (first | exact bl_refl | assumption | (apply bl_then; assumption) | refine bl_alloc ?_ _ | refine bl_drew ?_ | refine bl_drewN ?_ _))⟩
  · have h : a < b := by assumption
    simp [cmpI, h]
  · have h : b < a := by assumption
    have h' : ¬ a < b := by omega
    simp [cmpI, h, h']
  · have h : b ≤ a := by assumption
    have h'' : a ≤ b := by assumption
    have h1 : ¬ a < b := by omega
    have h2 : ¬ b < a := by omega
    simp [cmpI, h1, h2]

theorem or_any (l : List Int) (A : Option Addr) (c : Nat) (w : World) (hl : l.length ≤ maxLen) (h : Rd ic 1 w A l) :
    Calls Try.prog 49 #[.slice A l.length c] w (RV w (.int .i64 (firstI l))) := by
  unfold maxLen at hl
  go_enter Try.func49, Try.ntmps49
  go_wp2
  go_loop [8] (fun i => ∃ k : Nat, k ≤ l.length ∧ i = .int .i64 k ∧ Hid (firstI l = firstI (l.drop k))) (fun i => l.length - (intOf i).toNat)
  case atStart => exact ⟨0, Nat.zero_le _, rfl, rfl⟩
  case round =>
    obtain ⟨k, hk, rfl, H⟩ := hrel
    by_cases hlt : k < l.length
    · obtain ⟨b, off, rfl, hb, hc⟩ := h.int hlt
      have hd := Lib.hid (firstI_drop hlt)
      go_wp2
      · have hne : (l[k] != 0) = true := by assumption
        go_ret
        refine ⟨ret_int ?_, bl_refl⟩
        rw [H.out, hd.out, if_neg (by simpa using hne)]
      · have hne : (l[k] != 0) = false := by assumption
        go_round
        case rel => exact ⟨k + 1, by omega, by go_num, by rw [H.out, hd.out, if_pos (by simpa using hne)]; rfl⟩
        case measure => simp [intOf]; omega
    · have hkl : k = l.length := by omega
      go_wp2
      go_ret
      refine ⟨ret_int ?_, bl_refl⟩
      rw [H.out, hkl, List.drop_length]; rfl

theorem ncompare_any (x y s x' y' s' : Int) (w : World) :
    Calls Try.prog 44 #[.agg #[.int .i64 x, .int .i64 y, .int .i64 s], .agg #[.int .i64 x', .int .i64 y', .int .i64 s']] w (RV w (.int .i64 (barCmp x y s x' y' s'))) := by
  go_enter Try.func44, Try.ntmps44
  go_wp2
  refine wp_region_ords [0, 1, 2, 3, 5, 6, 7, 8, 10, 11, 12, 13] [(4, false), (9, false)] [14, 15, 16, 17] (by kernel_rfl) (by kernel_rfl) (fun d _ _ _ _ h => by cases d <;> exact h) ?_
  simp only [List.map_cons, List.map_nil, List.getD_cons_zero, List.getD_cons_succ]
  repeat (go_big_quiet_step (fail))
  refine wpQuiet_nil ?_
  refine wpMid_run rfl (fun K hK => ?_)
  go_simp
  refine (cmp_any _ _ _).mono ?_
  rintro e w1 ⟨rfl, hb1⟩
  refine hK _ _ (by (repeat (first | exact bl_refl | assumption | (apply bl_then; assumption) | refine bl_alloc ?_ _ | refine bl_drew ?_ | refine bl_drewN ?_ _))) ?_
  clear hK K
  refine wpMid_run rfl (fun K hK => ?_)
  go_simp
  refine (cmp_any _ _ _).mono ?_
  rintro e w2 ⟨rfl, hb2⟩
  refine hK _ _ (by (repeat (first | exact bl_refl | assumption | (apply bl_then; assumption) | refine bl_alloc ?_ _ | refine bl_drew ?_ | refine bl_drewN ?_ _))) ?_
  clear hK K
  refine wpMid_nil ?_
  go_wp2_with (first | (go_at_call 50; refine (cmp_any _ _ _).mono ?_; rintro e w3 ⟨rfl, hb3⟩) | (go_at_call 49; go_must (refine (or_any [cmpI y y', cmpI x x', cmpI s s'] _ _ _ (by simp [maxLen]) (Rd.ints3 (by simp) (by go_simp) (by go_simp) (by go_simp))).mono ?_); rintro e w4 ⟨rfl, hb4⟩))
  go_ret
  exact ⟨rfl, by (repeat (first | exact bl_refl | assumption | (apply bl_then; assumption) | refine bl_alloc ?_ _ | refine bl_drew ?_ | refine bl_drewN ?_ _))⟩

theorem nends_any (x y s : Int) (hx : -1000000 ≤ x ∧ x ≤ 1000000) (hy : -1000000 ≤ y ∧ y ≤ 1000000) (hs : -10 ≤ s ∧ s ≤ 10) (w : World) :
    Calls Try.prog 45 #[.agg #[.int .i64 x, .int .i64 y, .int .i64 s]] w (RV w (.agg #[.int .i64 x, .int .i64 y, .int .i64 (x + s), .int .i64 (y + 1)])) := by
  go_enter Try.func45, Try.ntmps45
  go_wp2
  refine bodyPost_ret (v := .agg #[.int .i64 x, .int .i64 y, .int .i64 (x + s), .int .i64 (y + 1)]) (by simp [results, Try.results45, go_sem]) rfl ?_
  exact ⟨rfl, by (repeat (first | exact bl_refl | assumption | (apply bl_then; assumption) | refine bl_alloc ?_ _ | refine bl_drew ?_ | refine bl_drewN ?_ _))⟩

theorem knotE_step {x y s : Int} (h : knotE x y = 0) (hs : s = 1 ∨ s = -1) : knotE (x + s) (y + 1) = reachI (x + s) (y + 1) := by
  obtain ⟨_, _, _, _, hp⟩ := knotE_zero h
  rw [reachI_far]
  unfold knotE
  by_cases h1 : (farB (x + s) || farB (y + 1)) = true
  · rw [if_pos h1, if_pos h1]
  · rw [if_neg h1, if_neg h1, if_pos (by omega)]

theorem nbar_any (x y s : Int) (w : World) : Calls Try.prog 43 #[.agg #[.int .i64 x, .int .i64 y, .int .i64 s]] w (RV w (.int .i64 (barE x y s))) := by
  have hB := Blk.new w 50 #[.int .i64 x, .int .i64 y, .int .i64 s]
  by_cases hs : s = 1 ∨ s = -1
  · by_cases h0 : knotE x y = 0
    · obtain ⟨hx1, hx2, hy1, hy2, hp⟩ := knotE_zero h0
      have HB : Hid (barE x y s = reachI (x + s) (y + 1)) := by
        unfold barE; rw [if_neg (by simpa using h0), if_neg (by omega), knotE_step h0 hs]; rfl
      have hF : (firstI [knotE x y, whenI false 13] != 0) = false := by simp [h0, firstI, whenI]
      clear h0 hp
      rcases hs with rfl | rfl
      all_goals
        go_enter Try.func43, Try.ntmps43
        go_wp2
        refine wp_region_ords [0, 1, 2, 3, 4, 6, 7, 8] [(5, false)] [9, 10, 11, 12, 13, 14, 15, 16, 17] (by kernel_rfl) (by kernel_rfl) (fun d _ _ _ _ h => by cases d <;> exact h) ?_
        simp only [List.map_cons, List.map_nil, List.getD_cons_zero, List.getD_cons_succ]
        repeat (go_big_quiet_step (fail))
        refine wpQuiet_nil ?_
        refine wpMid_run rfl (fun K hK => ?_)
        go_simp
        refine (nknot_any _ _ _).mono ?_
        rintro e w1 ⟨rfl, hb1⟩
        refine hK _ _ (by (repeat (first | exact bl_refl | assumption | (apply bl_then; assumption) | refine bl_alloc ?_ _ | refine bl_drew ?_ | refine bl_drewN ?_ _))) ?_
        clear hK K
        (first | replace hB := hB.st0 hb1 | replace hB := hB.st1 hb1 | replace hB := hB.std hb1 | replace hB := hB.std1 hb1 | replace hB := hB.st2 hb1 | replace hB := hB.std2 hb1 | replace hB := hB.st3 hb1)
        have kB := hB.facts
        refine wpMid_nil ?_
        go_wp2_with (first | (go_at_call 34; refine (nwhen_any _ _ _).mono ?_; rintro e w1 ⟨rfl, hb1⟩; (first | replace hB := hB.st0 hb1 | replace hB := hB.st1 hb1 | replace hB := hB.std hb1 | replace hB := hB.std1 hb1 | replace hB := hB.st2 hb1 | replace hB := hB.std2 hb1 | replace hB := hB.st3 hb1); have kB := hB.facts) | (go_at_call 22; refine (nfirst_any [knotE x y, whenI false 13] _ _ _ (by simp [maxLen]) (Rd.ints2 (by simp) (by go_simp) (by go_simp))).mono ?_; rintro e w1 ⟨rfl, hb1⟩; (first | replace hB := hB.st0 hb1 | replace hB := hB.st1 hb1 | replace hB := hB.std hb1 | replace hB := hB.std1 hb1 | replace hB := hB.st2 hb1 | replace hB := hB.std2 hb1 | replace hB := hB.st3 hb1); have kB := hB.facts) | (go_at_call 45; refine (nends_any _ _ _ (by omega) (by omega) (by omega) _).mono ?_; rintro e w1 ⟨rfl, hb1⟩) | (go_at_call 35; refine (nreach_any _ _ _).mono ?_; rintro e w1 ⟨rfl, hb1⟩))
        go_ret
        exact ⟨ret_int (by rw [HB.out]), by (repeat (first | exact bl_refl | assumption | (apply bl_then; assumption) | refine bl_alloc ?_ _ | refine bl_drew ?_ | refine bl_drewN ?_ _))⟩
    · have HB : Hid (barE x y s = firstI [knotE x y, whenI false 13]) := by unfold barE; rw [if_pos h0]; simp [firstI, h0, Hid]
      have hF : (firstI [knotE x y, whenI false 13] != 0) = true := by simp [h0, firstI]
      clear h0
      rcases hs with rfl | rfl
      all_goals
        go_enter Try.func43, Try.ntmps43
        go_wp2
        refine wp_region_ords [0, 1, 2, 3, 4, 6, 7, 8] [(5, false)] [9, 10, 11, 12, 13, 14, 15, 16, 17] (by kernel_rfl) (by kernel_rfl) (fun d _ _ _ _ h => by cases d <;> exact h) ?_
        simp only [List.map_cons, List.map_nil, List.getD_cons_zero, List.getD_cons_succ]
        repeat (go_big_quiet_step (fail))
        refine wpQuiet_nil ?_
        refine wpMid_run rfl (fun K hK => ?_)
        go_simp
        refine (nknot_any _ _ _).mono ?_
        rintro e w1 ⟨rfl, hb1⟩
        refine hK _ _ (by (repeat (first | exact bl_refl | assumption | (apply bl_then; assumption) | refine bl_alloc ?_ _ | refine bl_drew ?_ | refine bl_drewN ?_ _))) ?_
        clear hK K
        (first | replace hB := hB.st0 hb1 | replace hB := hB.st1 hb1 | replace hB := hB.std hb1 | replace hB := hB.std1 hb1 | replace hB := hB.st2 hb1 | replace hB := hB.std2 hb1 | replace hB := hB.st3 hb1)
        have kB := hB.facts
        refine wpMid_nil ?_
        go_wp2_with (first | (go_at_call 34; refine (nwhen_any _ _ _).mono ?_; rintro e w1 ⟨rfl, hb1⟩) | (go_at_call 22; refine (nfirst_any [knotE x y, whenI false 13] _ _ _ (by simp [maxLen]) (Rd.ints2 (by simp) (by go_simp) (by go_simp))).mono ?_; rintro e w1 ⟨rfl, hb1⟩))
        go_ret
        exact ⟨ret_int (by rw [HB.out]), by (repeat (first | exact bl_refl | assumption | (apply bl_then; assumption) | refine bl_alloc ?_ _ | refine bl_drew ?_ | refine bl_drewN ?_ _))⟩
  · have h1 : (s != 1) = true := by simp; omega
    have h2 : (s != -1) = true := by simp; omega
    have HB : Hid (barE x y s = firstI [knotE x y, whenI true 13]) := by
      unfold barE
      by_cases h0 : knotE x y = 0
      · rw [if_neg (by simpa using h0), if_pos (by omega)]; simp [firstI, h0, whenI, Hid]
      · rw [if_pos h0]; simp [firstI, h0, Hid]
    have hF : (firstI [knotE x y, whenI true 13] != 0) = true := by
      by_cases h0 : knotE x y = 0 <;> simp [h0, firstI, whenI]
    clear hs
    go_enter Try.func43, Try.ntmps43
    go_wp2
    refine wp_region_ords [0, 1, 2, 3, 4, 6, 7, 8] [(5, false)] [9, 10, 11, 12, 13, 14, 15, 16, 17] (by kernel_rfl) (by kernel_rfl) (fun d _ _ _ _ h => by cases d <;> exact h) ?_
    simp only [List.map_cons, List.map_nil, List.getD_cons_zero, List.getD_cons_succ]
    repeat (go_big_quiet_step (fail))
    refine wpQuiet_nil ?_
    refine wpMid_run rfl (fun K hK => ?_)
    go_simp
    refine (nknot_any _ _ _).mono ?_
    rintro e w1 ⟨rfl, hb1⟩
    refine hK _ _ (by (repeat (first | exact bl_refl | assumption | (apply bl_then; assumption) | refine bl_alloc ?_ _ | refine bl_drew ?_ | refine bl_drewN ?_ _))) ?_
    clear hK K
    (first | replace hB := hB.st0 hb1 | replace hB := hB.st1 hb1 | replace hB := hB.std hb1 | replace hB := hB.std1 hb1 | replace hB := hB.st2 hb1 | replace hB := hB.std2 hb1 | replace hB := hB.st3 hb1)
    have kB := hB.facts
    refine wpMid_nil ?_
    go_wp2_with (first | (go_at_call 34; refine (nwhen_any _ _ _).mono ?_; rintro e w1 ⟨rfl, hb1⟩) | (go_at_call 22; refine (nfirst_any [knotE x y, whenI true 13] _ _ _ (by simp [maxLen]) (Rd.ints2 (by simp) (by go_simp) (by go_simp))).mono ?_; rintro e w1 ⟨rfl, hb1⟩))
    go_ret
    exact ⟨ret_int (by rw [HB.out]), by (repeat (first | exact bl_refl | assumption | (apply bl_then; assumption) | refine bl_alloc ?_ _ | refine bl_drew ?_ | refine bl_drewN ?_ _))⟩

theorem netGo_err {l : List Bar} {k : Nat} (h : k < l.length) (hE : barE l[k].1 l[k].2.1 l[k].2.2 ≠ 0) : netGo (prevB l k) (l.drop k) = barE l[k].1 l[k].2.1 l[k].2.2 := by
  rw [netGo_drop h, if_pos hE]
theorem netGo_first {l : List Bar} (h : 0 < l.length) (hE : barE (l[0]'h).1 (l[0]'h).2.1 (l[0]'h).2.2 = 0) : netGo (prevB l 0) (l.drop 0) = netGo (prevB l (0 + 1)) (l.drop (0 + 1)) := by
  rw [netGo_drop h, if_neg (by simpa using hE), if_neg (by simp [prevB])]
theorem netGo_late {l : List Bar} {k : Nat} (h : k < l.length) (h0 : 0 < k) (hE : barE l[k].1 l[k].2.1 l[k].2.2 = 0)
    (ho : barLt (l[k - 1]'(by omega)).1 (l[k - 1]'(by omega)).2.1 (l[k - 1]'(by omega)).2.2 l[k].1 l[k].2.1 l[k].2.2 = false) : netGo (prevB l k) (l.drop k) = 11 := by
  rw [netGo_drop h, if_neg (by simpa using hE), if_pos (by rw [prevB_pos h h0]; simp [ho])]
theorem netGo_next {l : List Bar} {k : Nat} (h : k < l.length) (h0 : 0 < k) (hE : barE l[k].1 l[k].2.1 l[k].2.2 = 0)
    (ho : barLt (l[k - 1]'(by omega)).1 (l[k - 1]'(by omega)).2.1 (l[k - 1]'(by omega)).2.2 l[k].1 l[k].2.1 l[k].2.2 = true) : netGo (prevB l k) (l.drop k) = netGo (prevB l (k + 1)) (l.drop (k + 1)) := by
  rw [netGo_drop h, if_neg (by simpa using hE), if_neg (by rw [prevB_pos h h0]; simp [ho])]

theorem rnet_any (l : List Bar) (A : Option Addr) (c : Nat) (w : World) (hl : l.length ≤ maxLen) (h : Rd bc 3 w A l) :
    Calls Try.prog 15 #[.slice A l.length c] w (RV w (.int .i64 (netE l))) := by
  unfold maxLen at hl
  by_cases hbig : 4096 < l.length
  · have HB : Hid (netE l = 5) := by unfold netE; rw [if_pos hbig]; rfl
    go_enter Try.func15, Try.ntmps15
    go_wp2
    go_ret
    exact ⟨ret_int (by rw [HB.out]), by (repeat (first | exact bl_refl | assumption | (apply bl_then; assumption) | refine bl_alloc ?_ _ | refine bl_drew ?_ | refine bl_drewN ?_ _))⟩
  · have HB : Hid (netE l = netGo none l) := by unfold netE; rw [if_neg hbig]; rfl
    go_enter Try.func15, Try.ntmps15
    go_wp2
    go_loopw [3] (fun i wr => ∃ k : Nat, k ≤ l.length ∧ i = .int .i64 k ∧ Hid (netE l = netGo (prevB l k) (l.drop k)) ∧ Below w.heap.size w wr) (fun i _ => l.length - (intOf i).toNat)
    case atStart => exact ⟨0, Nat.zero_le _, rfl, HB, bl_refl⟩
    case round =>
      obtain ⟨k, hk, rfl, H, hbw⟩ := hrel
      by_cases hlt : k < l.length
      · have hr := h.below hbw
        obtain ⟨b, off, rfl, hb, e0, e1, e2⟩ := hr.bar hlt
        by_cases hE : barE l[k].1 l[k].2.1 l[k].2.2 = 0
        · have hE' : (barE l[k].1 l[k].2.1 l[k].2.2 != 0) = false := by simp [hE]
          by_cases h0 : 0 < k
          · have hk1 : 1 ≤ k := h0
            obtain ⟨lt, hlt2⟩ : ∃ lt, barLt (l[k - 1]'(by omega)).1 (l[k - 1]'(by omega)).2.1 (l[k - 1]'(by omega)).2.2 l[k].1 l[k].2.1 l[k].2.2 = lt := ⟨_, rfl⟩
            have HN : Hid (netGo (prevB l k) (l.drop k) = if lt = true then netGo (prevB l (k + 1)) (l.drop (k + 1)) else 11) := by
              cases lt
              · rw [netGo_late hlt h0 hE hlt2]; rfl
              · rw [netGo_next hlt h0 hE hlt2]; rfl
            clear hE
            cases lt
            · go_wp2_with (first | (go_at_call 38; refine (rbar_any _ _ _ _).mono ?_; rintro e w1 ⟨rfl, hb1⟩; (first | replace hr := hr.st0 hb1 | replace hr := hr.st1 hb1 | replace hr := hr.std hb1 | replace hr := hr.std1 hb1 | replace hr := hr.st2 hb1 | replace hr := hr.std2 hb1 | replace hr := hr.st3 hb1)))
              have f1 := hr.barAt hlt
              have f2 := hr.barAt (k := k - 1) (by omega)
              refine wp_region_ords [0, 1, 2, 3, 4, 5, 6, 7, 8, 9, 10, 11] [] [12, 13, 14] (by kernel_rfl) (by kernel_rfl) (fun d _ _ _ _ h => by cases d <;> exact h) ?_
              simp only [List.map_cons, List.map_nil, List.getD_cons_zero, List.getD_cons_succ]
              repeat (go_big_quiet_step (fail))
              refine wpQuiet_nil ?_
              refine wpMid_nil ?_
              go_wp2_with (first | (go_at_call 39; refine (rless_any _ _ _ _ _ _ _).mono ?_; rintro e w1 ⟨rfl, hb1⟩))
              go_ret
              exact ⟨ret_int (by rw [H.out, HN.out]; rfl), by (repeat (first | exact bl_refl | assumption | (apply bl_then; assumption) | refine bl_alloc ?_ _ | refine bl_drew ?_ | refine bl_drewN ?_ _))⟩
            · go_wp2_with (first | (go_at_call 38; refine (rbar_any _ _ _ _).mono ?_; rintro e w1 ⟨rfl, hb1⟩; (first | replace hr := hr.st0 hb1 | replace hr := hr.st1 hb1 | replace hr := hr.std hb1 | replace hr := hr.std1 hb1 | replace hr := hr.st2 hb1 | replace hr := hr.std2 hb1 | replace hr := hr.st3 hb1)))
              have f1 := hr.barAt hlt
              have f2 := hr.barAt (k := k - 1) (by omega)
              refine wp_region_ords [0, 1, 2, 3, 4, 5, 6, 7, 8, 9, 10, 11] [] [12, 13, 14] (by kernel_rfl) (by kernel_rfl) (fun d _ _ _ _ h => by cases d <;> exact h) ?_
              simp only [List.map_cons, List.map_nil, List.getD_cons_zero, List.getD_cons_succ]
              repeat (go_big_quiet_step (fail))
              refine wpQuiet_nil ?_
              refine wpMid_nil ?_
              go_wp2_with (first | (go_at_call 39; refine (rless_any _ _ _ _ _ _ _).mono ?_; rintro e w1 ⟨rfl, hb1⟩))
              go_roundw
              case rel => exact ⟨k + 1, by omega, by go_num, by rw [H.out, HN.out]; rfl, by (repeat (first | exact bl_refl | assumption | (apply bl_then; assumption) | refine bl_alloc ?_ _ | refine bl_drew ?_ | refine bl_drewN ?_ _))⟩
              case measure => simp [intOf]; omega
          · have hk0 : k = 0 := by omega
            have HN : Hid (netGo (prevB l k) (l.drop k) = netGo (prevB l (k + 1)) (l.drop (k + 1))) := by
              subst hk0; exact netGo_first hlt hE
            clear hk0 hE
            have h0' : decide (0 < k) = false := by simpa using h0
            go_wp2_with (first | (go_at_call 38; refine (rbar_any _ _ _ _).mono ?_; rintro e w1 ⟨rfl, hb1⟩))
            refine wp_region_ords [0, 1, 2, 3, 4, 5, 6, 7, 8, 9, 10, 11] [] [12, 13, 14] (by kernel_rfl) (by kernel_rfl) (fun d _ _ _ _ h => by cases d <;> exact h) ?_
            simp only [List.map_cons, List.map_nil, List.getD_cons_zero, List.getD_cons_succ]
            repeat (go_big_quiet_step (fail))
            refine wpQuiet_nil ?_
            refine wpMid_nil ?_
            go_wp2
            go_roundw
            case rel => exact ⟨k + 1, by omega, by go_num, by rw [H.out, HN.out]; rfl, by (repeat (first | exact bl_refl | assumption | (apply bl_then; assumption) | refine bl_alloc ?_ _ | refine bl_drew ?_ | refine bl_drewN ?_ _))⟩
            case measure => simp [intOf]; omega
        · have hE' : (barE l[k].1 l[k].2.1 l[k].2.2 != 0) = true := by simp [hE]
          have HN := Lib.hid (netGo_err hlt hE)
          clear hE
          go_wp2_with (first | (go_at_call 38; refine (rbar_any _ _ _ _).mono ?_; rintro e w1 ⟨rfl, hb1⟩))
          go_ret
          exact ⟨ret_int (by rw [H.out, HN.out]), by (repeat (first | exact bl_refl | assumption | (apply bl_then; assumption) | refine bl_alloc ?_ _ | refine bl_drew ?_ | refine bl_drewN ?_ _))⟩
      · have hkl : k = l.length := by omega
        go_wp2
        go_ret
        refine ⟨ret_int ?_, by (repeat (first | exact bl_refl | assumption | (apply bl_then; assumption) | refine bl_alloc ?_ _ | refine bl_drew ?_ | refine bl_drewN ?_ _))⟩
        rw [H.out, hkl, List.drop_length]; rfl
end Go.Proofs.Ytpoaomdpcoaolaa

/- The program's check of a net, walked. Conditions: the net's slice reads as a list. -/
namespace Go.Proofs.Ytpoaomdpcoaolaa
open Go.RowKit
set_option maxHeartbeats 1000000
set_option maxRecDepth 100000

theorem netGo_f {l : List Bar} {k : Nat} (h : k < l.length) (h0 : 0 < k) : netGo (prevB l k) (l.drop k) =
    if firstI [barE l[k].1 l[k].2.1 l[k].2.2, whenI (decide (0 ≤ barCmp (l[k - 1]'(by omega)).1 (l[k - 1]'(by omega)).2.1 (l[k - 1]'(by omega)).2.2 l[k].1 l[k].2.1 l[k].2.2)) 11] = 0 then netGo (prevB l (k + 1)) (l.drop (k + 1))
    else firstI [barE l[k].1 l[k].2.1 l[k].2.2, whenI (decide (0 ≤ barCmp (l[k - 1]'(by omega)).1 (l[k - 1]'(by omega)).2.1 (l[k - 1]'(by omega)).2.2 l[k].1 l[k].2.1 l[k].2.2)) 11] := by
  rw [barCmp_lt]
  by_cases hE : barE l[k].1 l[k].2.1 l[k].2.2 = 0
  · cases hl : barLt (l[k - 1]'(by omega)).1 (l[k - 1]'(by omega)).2.1 (l[k - 1]'(by omega)).2.2 l[k].1 l[k].2.1 l[k].2.2
    · rw [netGo_late h h0 hE hl]; simp [firstI, hE, whenI]
    · rw [netGo_next h h0 hE hl]; simp [firstI, hE, whenI]
  · rw [netGo_err h hE]; simp [firstI, hE]
theorem netGo_f0 {l : List Bar} {k : Nat} (h : k < l.length) (h0 : ¬ 0 < k) : netGo (prevB l k) (l.drop k) =
    if firstI [barE l[k].1 l[k].2.1 l[k].2.2, whenI false 11] = 0 then netGo (prevB l (k + 1)) (l.drop (k + 1)) else firstI [barE l[k].1 l[k].2.1 l[k].2.2, whenI false 11] := by
  obtain rfl : k = 0 := by omega
  by_cases hE : barE l[0].1 l[0].2.1 l[0].2.2 = 0
  · rw [netGo_first h hE]; simp [firstI, hE, whenI]
  · rw [netGo_err h hE]; simp [firstI, hE]

theorem nnet_any (l : List Bar) (A : Option Addr) (c : Nat) (w : World) (hl : l.length ≤ maxLen) (h : Rd bc 3 w A l) :
    Calls Try.prog 23 #[.slice A l.length c] w (RV w (.int .i64 (netE l))) := by
  unfold maxLen at hl
  by_cases hbig : 4096 < l.length
  · have HB : Hid (netE l = 5) := by unfold netE; rw [if_pos hbig]; rfl
    go_enter Try.func23, Try.ntmps23
    go_wp2
    go_ret
    exact ⟨ret_int (by rw [HB.out]), by (repeat (first | exact bl_refl | assumption | (apply bl_then; assumption) | refine bl_alloc ?_ _ | refine bl_drew ?_ | refine bl_drewN ?_ _))⟩
  · have HB : Hid (netE l = netGo none l) := by unfold netE; rw [if_neg hbig]; rfl
    go_enter Try.func23, Try.ntmps23
    go_wp2
    go_loopw [11] (fun i wr => ∃ k : Nat, k ≤ l.length ∧ i = .int .i64 k ∧ Hid (netE l = netGo (prevB l k) (l.drop k)) ∧ Below w.heap.size w wr) (fun i _ => l.length - (intOf i).toNat)
    case atStart => exact ⟨0, Nat.zero_le _, rfl, HB, bl_refl⟩
    case round =>
      obtain ⟨k, hk, rfl, H, hbw⟩ := hrel
      by_cases hlt : k < l.length
      · have hr := h.below hbw
        obtain ⟨b, off, rfl, hb, e0, e1, e2⟩ := hr.bar hlt
        by_cases h0 : 0 < k
        · have hk1 : 1 ≤ k := h0
          have f2 := hr.barAt (k := k - 1) (by omega)
          have f3 := (hr.alloc (.cells #[.int .i64 l[k].1, .int .i64 l[k].2.1, .int .i64 l[k].2.2] 50)).barAt (k := k - 1) (by omega)
          have hB := Blk.new wr 50 #[.int .i64 l[k].1, .int .i64 l[k].2.1, .int .i64 l[k].2.2]
          have HN := Lib.hid (netGo_f hlt h0)
          go_wp2
          refine wp_region_ords [0, 2, 3] [(1, false), (4, false), (5, true), (6, true), (7, true), (8, true), (9, true), (10, true), (11, false)] [12, 13, 14, 15, 16, 17, 18] (by kernel_rfl) (by kernel_rfl) (fun d _ _ _ _ h => by cases d <;> exact h) ?_
          simp only [List.map_cons, List.map_nil, List.getD_cons_zero, List.getD_cons_succ]
          repeat (go_big_quiet_step (fail))
          refine wpQuiet_nil ?_
          refine wpMid_run rfl (fun K hK => ?_)
          go_simp
          refine (nbar_any _ _ _ _).mono ?_
          rintro e w1 ⟨rfl, hb1⟩
          refine hK _ _ (by (repeat (first | exact bl_refl | assumption | (apply bl_then; assumption) | refine bl_alloc ?_ _ | refine bl_drew ?_ | refine bl_drewN ?_ _))) ?_
          clear hK K
          (first | replace hB := hB.st0 hb1 | replace hB := hB.st1 hb1 | replace hB := hB.std hb1 | replace hB := hB.std1 hb1 | replace hB := hB.st2 hb1 | replace hB := hB.std2 hb1 | replace hB := hB.st3 hb1)
          have kB := hB.facts
          (first | replace hr := hr.st0 hb1 | replace hr := hr.st1 hb1 | replace hr := hr.std hb1 | replace hr := hr.std1 hb1 | replace hr := hr.st2 hb1 | replace hr := hr.std2 hb1 | replace hr := hr.st3 hb1)
          have f4 := hr.barAt (k := k - 1) (by omega)
          have hmx : (if (1 : Int) < (k : Int) then (k : Int) - 1 else 0) = (k : Int) - 1 := by split <;> omega
          refine wpMid_run rfl (fun K hK => ?_)
          go_simp
          refine hK _ _ (by (repeat (first | exact bl_refl | assumption | (apply bl_then; assumption) | refine bl_alloc ?_ _ | refine bl_drew ?_ | refine bl_drewN ?_ _))) ?_
          clear hK K
          refine wpMid_take rfl ?_
          intro K hK
          go_big_quiet_op
          go_big_quiet_on
          refine wpMid_take rfl ?_
          intro K hK
          go_big_quiet_op
          go_big_quiet_on
          refine wpMid_take rfl ?_
          intro K hK
          go_big_quiet_op
          go_big_quiet_on
          refine wpMid_take rfl ?_
          intro K hK
          go_big_quiet_op
          go_big_quiet_on
          refine wpMid_take rfl ?_
          intro K hK
          go_big_quiet_op
          go_big_quiet_on
          refine wpMid_take rfl ?_
          intro K hK
          go_big_quiet_op
          go_big_quiet_on
          refine wpMid_run rfl (fun K hK => ?_)
          go_simp
          refine hK _ _ (by (repeat (first | exact bl_refl | assumption | (apply bl_then; assumption) | refine bl_alloc ?_ _ | refine bl_drew ?_ | refine bl_drewN ?_ _))) ?_
          clear hK K
          refine wpMid_nil ?_
          go_wp2_with (first | (go_at_call 44; refine (ncompare_any _ _ _ _ _ _ _).mono ?_; rintro e w1 ⟨rfl, hb1⟩) | (go_at_call 34; refine (nwhen_any _ _ _).mono ?_; rintro e w1 ⟨rfl, hb1⟩) | (go_at_call 22; go_must (refine (nfirst_any [barE l[k].1 l[k].2.1 l[k].2.2, whenI (decide (0 ≤ barCmp (l[k - 1]'(by omega)).1 (l[k - 1]'(by omega)).2.1 (l[k - 1]'(by omega)).2.2 l[k].1 l[k].2.1 l[k].2.2)) 11] _ _ _ (by simp [maxLen]) (Rd.ints2 (by simp) (by go_simp) (by go_simp))).mono ?_); rintro e w4 ⟨rfl, hb4⟩))
          · have hne : (firstI [barE l[k].1 l[k].2.1 l[k].2.2, whenI (decide (0 ≤ barCmp (l[k - 1]'(by omega)).1 (l[k - 1]'(by omega)).2.1 (l[k - 1]'(by omega)).2.2 l[k].1 l[k].2.1 l[k].2.2)) 11] != 0) = true := by assumption
            go_ret
            exact ⟨ret_int (by rw [H.out, HN.out, if_neg (by simpa using hne)]), by (repeat (first | exact bl_refl | assumption | (apply bl_then; assumption) | refine bl_alloc ?_ _ | refine bl_drew ?_ | refine bl_drewN ?_ _))⟩
          · have hne : (firstI [barE l[k].1 l[k].2.1 l[k].2.2, whenI (decide (0 ≤ barCmp (l[k - 1]'(by omega)).1 (l[k - 1]'(by omega)).2.1 (l[k - 1]'(by omega)).2.2 l[k].1 l[k].2.1 l[k].2.2)) 11] != 0) = false := by assumption
            go_roundw
            case rel => exact ⟨k + 1, by omega, by go_num, by rw [H.out, HN.out, if_pos (by simpa using hne)]; rfl, by (repeat (first | exact bl_refl | assumption | (apply bl_then; assumption) | refine bl_alloc ?_ _ | refine bl_drew ?_ | refine bl_drewN ?_ _))⟩
            case measure => simp [intOf]; omega
        · have HN := Lib.hid (netGo_f0 hlt h0)
          have hB := Blk.new wr 50 #[.int .i64 l[k].1, .int .i64 l[k].2.1, .int .i64 l[k].2.2]
          have h0' : decide (0 < k) = false := by simpa using h0
          go_wp2
          refine wp_region_ords [0, 2, 3] [(1, false), (4, false), (5, true), (6, true), (7, true), (8, true), (9, true), (10, true), (11, false)] [12, 13, 14, 15, 16, 17, 18] (by kernel_rfl) (by kernel_rfl) (fun d _ _ _ _ h => by cases d <;> exact h) ?_
          simp only [List.map_cons, List.map_nil, List.getD_cons_zero, List.getD_cons_succ]
          repeat (go_big_quiet_step (fail))
          refine wpQuiet_nil ?_
          refine wpMid_run rfl (fun K hK => ?_)
          go_simp
          refine (nbar_any _ _ _ _).mono ?_
          rintro e w1 ⟨rfl, hb1⟩
          refine hK _ _ (by (repeat (first | exact bl_refl | assumption | (apply bl_then; assumption) | refine bl_alloc ?_ _ | refine bl_drew ?_ | refine bl_drewN ?_ _))) ?_
          clear hK K
          (first | replace hB := hB.st0 hb1 | replace hB := hB.st1 hb1 | replace hB := hB.std hb1 | replace hB := hB.std1 hb1 | replace hB := hB.st2 hb1 | replace hB := hB.std2 hb1 | replace hB := hB.st3 hb1)
          have kB := hB.facts
          refine wpMid_run rfl (fun K hK => ?_)
          go_simp
          refine hK _ _ (by (repeat (first | exact bl_refl | assumption | (apply bl_then; assumption) | refine bl_alloc ?_ _ | refine bl_drew ?_ | refine bl_drewN ?_ _))) ?_
          clear hK K
          refine wpMid_skipT (by kernel_rfl) ?_
          intro K hK
          simp only [Act.put, List.setIfInBounds_toArray, List.set_cons_zero, List.set_cons_succ]
          refine hK _ ?_
          clear hK K
          refine wpMid_skipT (by kernel_rfl) ?_
          intro K hK
          simp only [Act.put, List.setIfInBounds_toArray, List.set_cons_zero, List.set_cons_succ]
          refine hK _ ?_
          clear hK K
          refine wpMid_skipT (by kernel_rfl) ?_
          intro K hK
          simp only [Act.put, List.setIfInBounds_toArray, List.set_cons_zero, List.set_cons_succ]
          refine hK _ ?_
          clear hK K
          refine wpMid_skipT (by kernel_rfl) ?_
          intro K hK
          simp only [Act.put, List.setIfInBounds_toArray, List.set_cons_zero, List.set_cons_succ]
          refine hK _ ?_
          clear hK K
          refine wpMid_skipT (by kernel_rfl) ?_
          intro K hK
          simp only [Act.put, List.setIfInBounds_toArray, List.set_cons_zero, List.set_cons_succ]
          refine hK _ ?_
          clear hK K
          refine wpMid_skipT (by kernel_rfl) ?_
          intro K hK
          simp only [Act.put, List.setIfInBounds_toArray, List.set_cons_zero, List.set_cons_succ]
          refine hK _ ?_
          clear hK K
          refine wpMid_skipF (by kernel_rfl) ?_
          intro K hK
          simp only [Act.put, List.setIfInBounds_toArray, List.set_cons_zero, List.set_cons_succ]
          refine hK _ ?_
          clear hK K
          refine wpMid_nil ?_
          go_wp2_with (first | (go_at_call 34; refine (nwhen_any _ _ _).mono ?_; rintro e w1 ⟨rfl, hb1⟩) | (go_at_call 22; go_must (refine (nfirst_any [barE l[k].1 l[k].2.1 l[k].2.2, whenI false 11] _ _ _ (by simp [maxLen]) (Rd.ints2 (by simp) (by go_simp) (by go_simp))).mono ?_); rintro e w4 ⟨rfl, hb4⟩))
          · have hne : (firstI [barE l[k].1 l[k].2.1 l[k].2.2, whenI false 11] != 0) = true := by assumption
            go_ret
            exact ⟨ret_int (by rw [H.out, HN.out, if_neg (by simpa using hne)]), by (repeat (first | exact bl_refl | assumption | (apply bl_then; assumption) | refine bl_alloc ?_ _ | refine bl_drew ?_ | refine bl_drewN ?_ _))⟩
          · have hne : (firstI [barE l[k].1 l[k].2.1 l[k].2.2, whenI false 11] != 0) = false := by assumption
            go_roundw
            case rel => exact ⟨k + 1, by omega, by go_num, by rw [H.out, HN.out, if_pos (by simpa using hne)]; rfl, by (repeat (first | exact bl_refl | assumption | (apply bl_then; assumption) | refine bl_alloc ?_ _ | refine bl_drew ?_ | refine bl_drewN ?_ _))⟩
            case measure => simp [intOf]; omega
      · have hkl : k = l.length := by omega
        go_wp2
        go_ret
        refine ⟨ret_int ?_, by (repeat (first | exact bl_refl | assumption | (apply bl_then; assumption) | refine bl_alloc ?_ _ | refine bl_drew ?_ | refine bl_drewN ?_ _))⟩
        rw [H.out, hkl, List.drop_length]; rfl
end Go.Proofs.Ytpoaomdpcoaolaa

/- Maps as lists of entries: what a look-up, a store, a delete and the length of a map come to, for keys that are told apart by value. Conditions: 'KeyLaw' of the key's type. -/
namespace Go.Proofs.Ytpoaomdpcoaolaa
open Go.RowKit Go.ChangeMaps

/-! ## plain: a list of entries (key, value, stamp) -/
def mkeys {κ ν : Type} (m : List (κ × ν × Nat)) : List κ := m.map (·.1)
/-- keys are told apart, and so are stamps, which are below the clock -/
structure MOk {κ ν : Type} (m : List (κ × ν × Nat)) (c : Nat) : Prop where
  keys : (mkeys m).Nodup
  stamps : (m.map (·.2.2)).Nodup
  below : ∀ x ∈ m, x.2.2 < c
theorem MOk.nil_ {κ ν : Type} : MOk ([] : List (κ × ν × Nat)) 0 := ⟨by simp [mkeys], by simp, by simp⟩

section
variable {κ ν : Type} [DecidableEq κ]

def mget (a : κ) : List (κ × ν × Nat) → Option ν
  | [] => none
  | x :: r => if a = x.1 then some x.2.1 else mget a r
def mput (a : κ) (v : ν) (c : Nat) : List (κ × ν × Nat) → List (κ × ν × Nat)
  | [] => [(a, v, c)]
  | x :: r => if a = x.1 then (a, v, x.2.2) :: r else x :: mput a v c r
def mdel (a : κ) : List (κ × ν × Nat) → List (κ × ν × Nat)
  | [] => []
  | x :: r => if a = x.1 then r else x :: mdel a r
def mclk (a : κ) (m : List (κ × ν × Nat)) (c : Nat) : Nat := if a ∈ mkeys m then c else c + 1

theorem mget_none {a : κ} : ∀ {m : List (κ × ν × Nat)}, mget a m = none ↔ a ∉ mkeys m
  | [] => by simp [mget, mkeys]
  | x :: r => by
    unfold mget
    by_cases h : a = x.1
    · simp [h, mkeys]
    · rw [if_neg h, mget_none (m := r)]; simp [mkeys, h]
theorem mget_put (a x : κ) (v : ν) (c : Nat) : ∀ m : List (κ × ν × Nat), mget x (mput a v c m) = if x = a then some v else mget x m
  | [] => by simp [mput, mget]
  | y :: r => by
    unfold mput
    by_cases h : a = y.1
    · subst h
      simp only [if_true, mget]
      split <;> rfl
    · rw [if_neg h]
      simp only [mget, mget_put a x v c r]
      by_cases h1 : x = y.1
      · subst h1; rw [if_pos rfl, if_pos rfl, if_neg (Ne.symm h)]
      · rw [if_neg h1, if_neg h1]
theorem mget_del (a x : κ) : ∀ {m : List (κ × ν × Nat)}, (mkeys m).Nodup → mget x (mdel a m) = if x = a then none else mget x m
  | [], _ => by simp [mdel, mget]
  | y :: r, hn => by
    have hn' : y.1 ∉ mkeys r ∧ (mkeys r).Nodup := by simpa [mkeys] using hn
    unfold mdel
    by_cases h : a = y.1
    · rw [if_pos h]
      by_cases h1 : x = a
      · rw [if_pos h1, h1, h]; exact mget_none.2 hn'.1
      · rw [if_neg h1]; simp only [mget]; rw [if_neg (by rw [← h]; exact h1)]
    · rw [if_neg h]
      simp only [mget, mget_del a x hn'.2]
      by_cases h1 : x = y.1
      · subst h1; rw [if_pos rfl, if_pos rfl, if_neg (Ne.symm h)]
      · rw [if_neg h1, if_neg h1]
theorem mkeys_put (a : κ) (v : ν) (c : Nat) : ∀ m : List (κ × ν × Nat), mkeys (mput a v c m) = if a ∈ mkeys m then mkeys m else mkeys m ++ [a]
  | [] => by simp [mput, mkeys]
  | y :: r => by
    unfold mput
    by_cases h : a = y.1
    · simp [h, mkeys]
    · rw [if_neg h]
      have ih := mkeys_put a v c r
      have e : (a ∈ mkeys (y :: r)) = (a ∈ mkeys r) := by simp [mkeys, h]
      show y.1 :: mkeys (mput a v c r) = if a ∈ mkeys (y :: r) then y.1 :: mkeys r else y.1 :: mkeys r ++ [a]
      rw [ih]
      by_cases h2 : a ∈ mkeys r
      · rw [if_pos h2, if_pos (by rw [e]; exact h2)]
      · rw [if_neg h2, if_neg (by rw [e]; exact h2)]; rfl
theorem mkeys_del (a : κ) : ∀ m : List (κ × ν × Nat), mkeys (mdel a m) = (mkeys m).erase a
  | [] => by simp [mdel, mkeys]
  | y :: r => by
    unfold mdel
    by_cases h : a = y.1
    · simp [h, mkeys]
    · rw [if_neg h]
      have ih := mkeys_del a r
      simp only [mkeys, List.map_cons] at ih ⊢
      rw [ih, List.erase_cons_tail (by simpa using Ne.symm h)]
theorem mdel_sub (a : κ) : ∀ m : List (κ × ν × Nat), (mdel a m).Sublist m
  | [] => by simp [mdel]
  | y :: r => by
    unfold mdel
    split
    · exact List.sublist_cons_self _ _
    · exact (mdel_sub a r).cons_cons _
theorem mput_stamps (a : κ) (v : ν) (c : Nat) : ∀ m : List (κ × ν × Nat), (mput a v c m).map (·.2.2) = if a ∈ mkeys m then m.map (·.2.2) else m.map (·.2.2) ++ [c]
  | [] => by simp [mput, mkeys]
  | y :: r => by
    unfold mput
    by_cases h : a = y.1
    · simp [h, mkeys]
    · rw [if_neg h]
      have ih := mput_stamps a v c r
      have e : (a ∈ mkeys (y :: r)) = (a ∈ mkeys r) := by simp [mkeys, h]
      rw [List.map_cons, ih]
      by_cases h2 : a ∈ mkeys r
      · rw [if_pos h2, if_pos (by rw [e]; exact h2)]; rfl
      · rw [if_neg h2, if_neg (by rw [e]; exact h2)]; rfl
theorem MOk.put {m : List (κ × ν × Nat)} {c : Nat} (h : MOk m c) (a : κ) (v : ν) : MOk (mput a v c m) (mclk a m c) := by
  refine ⟨?_, ?_, ?_⟩
  · rw [mkeys_put]
    split
    · exact h.keys
    · rename_i hn
      rw [List.nodup_append]
      exact ⟨h.keys, by simp, fun x hx y hy => by
        obtain rfl : y = a := by simpa using hy
        rintro rfl; exact hn hx⟩
  · rw [mput_stamps]
    split
    · exact h.stamps
    · rw [List.nodup_append]
      refine ⟨h.stamps, by simp, fun x hx y hy => ?_⟩
      obtain rfl : y = c := by simpa using hy
      rintro rfl
      obtain ⟨z, hz, e⟩ := List.mem_map.1 hx
      have := h.below z hz
      omega
  · intro x hx
    have hm : x.2.2 ∈ (mput a v c m).map (·.2.2) := List.mem_map_of_mem hx
    rw [mput_stamps] at hm
    unfold mclk
    split at hm
    · rename_i hk
      rw [if_pos hk]
      obtain ⟨z, hz, e⟩ := List.mem_map.1 hm
      rw [← e]; exact h.below z hz
    · rename_i hk
      rw [if_neg hk]
      rcases List.mem_append.1 hm with hm | hm
      · obtain ⟨z, hz, e⟩ := List.mem_map.1 hm
        have := h.below z hz
        omega
      · have : x.2.2 = c := by simpa using hm
        omega
theorem MOk.del {m : List (κ × ν × Nat)} {c : Nat} (h : MOk m c) (a : κ) : MOk (mdel a m) c :=
  ⟨by rw [mkeys_del]; exact h.keys.erase a, (List.Sublist.map _ (mdel_sub a m)).nodup h.stamps, fun x hx => h.below x ((mdel_sub a m).subset hx)⟩

end

/-! ## in memory -/
section
variable {κ ν : Type}
def ment (ek : κ → Value) (ev : ν → Value) (x : κ × ν × Nat) : MapEntry := { key := ek x.1, val := ev x.2.1, born := x.2.2 }
/-- block r is a map with the entries m, its clock at c -/
def MapAt (ek : κ → Value) (ev : ν → Value) (w : World) (r : Nat) (m : List (κ × ν × Nat)) (c : Nat) : Prop := w.heap[r]? = some (.map (m.map (ment ek ev)).toArray c)

variable {ek : κ → Value} {ev : ν → Value} {w w' : World} {r : Nat} {m : List (κ × ν × Nat)} {c : Nat} {t e : TypeId}
theorem MapAt.lt (h : MapAt ek ev w r m c) : r < w.heap.size := (Array.getElem?_eq_some_iff.1 h).1
theorem MapAt.below (h : MapAt ek ev w r m c) (hb : Below w.heap.size w w') : MapAt ek ev w' r m c := (hb.block r h.lt).trans h
theorem MapAt.alloc (h : MapAt ek ev w r m c) (o : Obj) : MapAt ek ev (w.alloc o) r m c := (Below.heap_alloc w o r h.lt).trans h
theorem MapAt.drew (h : MapAt ek ev w r m c) : MapAt ek ev w.drew r m c := h
theorem MapAt.set (h : MapAt ek ev w r m c) {p : Addr} (hp : r ≠ p.block) (u : Value) : MapAt ek ev (w.setCell p u) r m c := (Below.heap_setCell w p u r hp).trans h
theorem MapAt.grown {row : Option Nat} (h : MapAt ek ev w r m c) (hg : w.grownBy w' row) (hr : some r ≠ row) : MapAt ek ev w' r m c := (hg.block r h.lt hr).trans h
theorem MapAt.new (w : World) (ek : κ → Value) (ev : ν → Value) : MapAt ek ev (w.alloc (.map #[] 0)) w.heap.size [] 0 := heap_alloc_new w _
theorem MapAt.ne_blk (h : MapAt ek ev w r m c) {g : Nat} {cs : Array Value} (hg : Blk w g t cs) : g ≠ r := by
  rintro rfl
  unfold MapAt at h
  unfold Blk at hg
  rw [h] at hg
  cases hg
theorem MapAt.ne_own (h : MapAt ek ev w r m c) {α : Type} {enc : α → List Value} {sz base : Nat} {v : Value} {l : List α} (ho : Own enc sz base e w v l) : v.ownBlock ≠ some r := by
  rcases ho.2 with ⟨rfl, _⟩ | ⟨g, cap, cur, rfl, _, hh, _⟩
  · simp [Value.ownBlock]
  · intro he
    have : g = r := by simpa [Value.ownBlock] using he
    subst this
    unfold MapAt at h
    rw [h] at hh
    cases hh

end

section
variable {κ ν : Type} [DecidableEq κ]
structure KeyLaw (P : Program) (k : TypeId) (ek : κ → Value) : Prop where
  und : ∃ d, P.underlying k = some d ∧ ∀ a b, Instr.sameNow d (ek a) (ek b) = none
  eq : ∀ a b w, (Op.equal k (ek a) (ek b)).run P w = .ok (decide (a = b)) w
  ok : ∀ e a w, (Instr.checkKey e 10000 k (ek a)).run P w = .ok () w
  same : ∀ a, Instr.sameBits 10000 (ek a) (ek a) = true

variable {ek : κ → Value} {ev : ν → Value} {w w' : World} {r : Nat} {m : List (κ × ν × Nat)} {c : Nat} {P : Program} {k e t : TypeId}

theorem findAsking_run (K : KeyLaw P k ek) (a : κ) (w : World) : ∀ (m : List (κ × ν × Nat)) (i : Nat),
    (Instr.findAsking k (ek a) (m.map (ment ek ev)) i).run P w = .ok (match m.findIdx? (fun x => decide (a = x.1)) with | some j => (m[j]?).map fun x => (i + j, ev x.2.1) | none => none) w
  | [], i => by simp [Instr.findAsking]
  | x :: q, i => by
    have hq : (Op.equal k (ek a) (ment ek ev x).key).run P w = .ok (decide (a = x.1)) w := K.eq a x.1 w
    simp only [List.map_cons, Instr.findAsking, Sem.run_bind, hq, Result.andThen_ok]
    by_cases h : a = x.1
    · simp [h, List.findIdx?_cons, ment]
    · simp only [h, decide_false, Bool.false_eq_true, if_false]
      have ih := findAsking_run K a w q (i + 1)
      rw [ih, List.findIdx?_cons]
      simp only [h, decide_false, Bool.false_eq_true, if_false]
      cases hq : q.findIdx? (fun x => decide (a = x.1)) with
      | none => simp
      | some j =>
        have hj : j < q.length := by
          have := List.findIdx?_eq_some_iff_findIdx_eq.1 hq
          omega
        simp [List.getElem?_eq_getElem hj]
        omega

theorem findKey_run (K : KeyLaw P k ek) (a : κ) (w : World) (m : List (κ × ν × Nat)) :
    (Instr.findKey k (ek a) (m.map (ment ek ev))).run P w = .ok (match m.findIdx? (fun x => decide (a = x.1)) with | some j => (m[j]?).map fun x => (j, ev x.2.1) | none => none) w := by
  obtain ⟨d, hd, hn⟩ := K.und
  unfold Instr.findKey
  simp only [Sem.run_bind, run_underlying hd, Result.andThen_ok]
  cases m with
  | nil => simp [Instr.findNow]
  | cons x q =>
    have : Instr.findNow d (ek a) ((x :: q).map (ment ek ev)) 0 = none := by simp [Instr.findNow, ment, hn]
    rw [this]
    have h := findAsking_run (ev := ev) K a w (x :: q) 0
    simpa using h

theorem mget_idx (a : κ) : ∀ m : List (κ × ν × Nat), mget a m = match m.findIdx? (fun x => decide (a = x.1)) with | some j => (m[j]?).map fun x => x.2.1 | none => none
  | [] => by simp [mget]
  | x :: q => by
    unfold mget
    by_cases h : a = x.1
    · simp [h, List.findIdx?_cons]
    · rw [if_neg h, mget_idx a q, List.findIdx?_cons]
      simp only [h, decide_false, Bool.false_eq_true, if_false]
      cases q.findIdx? (fun x => decide (a = x.1)) <;> simp
theorem mput_idx (a : κ) (v : ν) (c : Nat) : ∀ m : List (κ × ν × Nat), mput a v c m = match m.findIdx? (fun x => decide (a = x.1)) with | some j => m.modify j (fun x => (a, v, x.2.2)) | none => m ++ [(a, v, c)]
  | [] => by simp [mput]
  | x :: q => by
    unfold mput
    by_cases h : a = x.1
    · simp [h, List.findIdx?_cons, List.modify]
    · rw [if_neg h, mput_idx a v c q, List.findIdx?_cons]
      simp only [h, decide_false, Bool.false_eq_true, if_false]
      cases q.findIdx? (fun x => decide (a = x.1)) <;> simp
theorem mdel_idx (a : κ) : ∀ m : List (κ × ν × Nat), mdel a m = match m.findIdx? (fun x => decide (a = x.1)) with | some j => m.eraseIdx j | none => m
  | [] => by simp [mdel]
  | x :: q => by
    unfold mdel
    by_cases h : a = x.1
    · simp [h, List.findIdx?_cons]
    · rw [if_neg h, mdel_idx a q, List.findIdx?_cons]
      simp only [h, decide_false, Bool.false_eq_true, if_false]
      cases q.findIdx? (fun x => decide (a = x.1)) <;> simp
theorem idx_mem (a : κ) (m : List (κ × ν × Nat)) : (m.findIdx? (fun x => decide (a = x.1))).isSome = decide (a ∈ mkeys m) := by
  rw [List.findIdx?_isSome]
  rw [Bool.eq_iff_iff]
  simp only [List.any_eq_true, decide_eq_true_eq, mkeys, List.mem_map]
  exact ⟨fun ⟨x, h, e⟩ => ⟨x, h, e.symm⟩, fun ⟨x, h, e⟩ => ⟨x, h, e.symm⟩⟩

/-- 'm[k]' -/
theorem MapAt.look (h : MapAt ek ev w r m c) (K : KeyLaw P k ek) (ht : P.underlying t = some (.map k e)) {z : Value} (hz : (zeroValue e).run P w = .ok z w) (a : κ) :
    (Instr.lookup t (.map (some r)) (ek a) false).run P w = .ok (match mget a m with | some v => ev v | none => z) w := by
  simp only [Instr.lookup, Sem.run_bind, run_underlying ht, Result.andThen_ok, MapKept.run_getObj_map h, K.ok, findKey_run (ev := ev) K a, Sem.run_pure]
  rw [mget_idx]
  cases hq : m.findIdx? (fun x => decide (a = x.1)) with
  | none => simp [hz]
  | some j =>
    have hj : j < m.length := by
      have := List.findIdx?_eq_some_iff_findIdx_eq.1 hq
      omega
    simp [List.getElem?_eq_getElem hj]

/-- 'm[k] = v' -/
theorem MapAt.put (h : MapAt ek ev w r m c) (K : KeyLaw P k ek) (ht : P.underlying t = some (.map k e)) (a : κ) (v : ν) :
    (Instr.mapUpdate t (.map (some r)) (ek a) (ev v)).run P w = .ok () (setBlock w r (.map ((mput a v c m).map (ment ek ev)).toArray (mclk a m c))) := by
  simp only [Instr.mapUpdate, Sem.run_bind, run_underlying ht, Result.andThen_ok, MapKept.run_getObj_map h, K.ok, findKey_run (ev := ev) K a]
  have hi := idx_mem a m
  rw [mput_idx]
  unfold mclk
  cases hq : m.findIdx? (fun x => decide (a = x.1)) with
  | none =>
    rw [hq] at hi
    have hn : a ∉ mkeys m := by simpa using hi
    simp [MapKept.run_setObj_map _ h, setBlock, hn, ment]
  | some j =>
    rw [hq] at hi
    have hn : a ∈ mkeys m := by simpa using hi
    have hj : j < m.length := by
      have := List.findIdx?_eq_some_iff_findIdx_eq.1 hq
      omega
    have ha : a = (m[j]).1 := by
      obtain ⟨hp, hb⟩ := List.findIdx?_eq_some_iff_getElem.1 hq
      simpa using hb.1
    have hk : (Instr.keyThatStays (ek a) (ek a)).run P w = .ok (ek a) w := by simp [Instr.keyThatStays, K.same]
    have hke : ek (m[j]).1 = ek a := by rw [← ha]
    simp only [List.getElem?_eq_getElem hj, Option.map_some, Sem.run_bind, List.getElem?_toArray, List.getElem?_map, Option.getD_some, ment, hke, hk, Result.andThen_ok, MapKept.run_setObj_map _ h, setBlock, hn, if_true]
    congr 4
    apply Array.ext'
    rw [Array.toList_modify]
    apply List.ext_getElem?
    intro i
    simp only [List.getElem?_modify, List.getElem?_map]
    by_cases hij : j = i
    · subst hij; simp [List.getElem?_eq_getElem hj, ment]
    · simp [hij]

/-- 'delete(m, k)' -/
theorem MapAt.del (h : MapAt ek ev w r m c) (K : KeyLaw P k ek) (ht : P.underlying t = some (.map k e)) (a : κ) (ty t2 : TypeId) :
    (Builtin.delete_ #[t, t2] ty #[.map (some r), ek a]).run P w = .ok (.tuple #[]) (setBlock w r (.map ((mdel a m).map (ment ek ev)).toArray c)) := by
  simp only [Builtin.delete_, List.getElem?_toArray, List.getElem?_cons_zero, List.getElem?_cons_succ, Sem.run_bind, run_underlying ht, Result.andThen_ok, MapKept.run_getObj_map h, K.ok, findKey_run (ev := ev) K a]
  rw [mdel_idx]
  cases hq : m.findIdx? (fun x => decide (a = x.1)) with
  | none => simp [MapKept.run_setObj_map _ h, setBlock]
  | some j =>
    have hj : j < m.length := by
      have := List.findIdx?_eq_some_iff_findIdx_eq.1 hq
      omega
    simp [List.getElem?_eq_getElem hj, MapKept.run_setObj_map _ h, setBlock, map_eraseIdx]

omit [DecidableEq κ] in
theorem MapAt.len (h : MapAt ek ev w r m c) (ht : P.underlying t = some (.map k e)) (ty : TypeId) :
    (Builtin.len_ #[t] ty #[.map (some r)]).run P w = .ok (.int .i64 m.length) w := by
  simp [Builtin.len_, run_underlying ht, MapKept.run_getObj_map h, goInt]
end
end Go.Proofs.Ytpoaomdpcoaolaa

/- 'm[k]++' on a map of value keys, told over its list of entries. Conditions: the map's keys and stamps are distinct. -/
namespace Go.Proofs.Ytpoaomdpcoaolaa
open Go.RowKit Go.ChangeMaps
set_option maxHeartbeats 400000

section
variable {κ ν : Type} [DecidableEq κ]
variable {ek : κ → Value} {ev : ν → Value} {w w' : World} {r : Nat} {m : List (κ × ν × Nat)} {c : Nat} {P : Program} {k e t : TypeId}

/-- the stamp of a key's entry -/
def mstamp (a : κ) (m : List (κ × ν × Nat)) (c : Nat) : Nat := match m.findIdx? (fun x => decide (a = x.1)) with
  | some j => ((m[j]?).map fun x => x.2.2).getD c
  | none => c
theorem MapAt.entry (h : MapAt ek ev w r m c) (K : KeyLaw P k ek) (ht : P.underlying t = some (.map k e)) {z : ν} (hz : (zeroValue e).run P w = .ok (ev z) w) (a : κ) :
    (Instr.mapEntry t (.map (some r)) (ek a)).run P w = .ok (.tuple #[ev ((mget a m).getD z), goInt (mstamp a m c)]) (setBlock w r (.map ((mput a ((mget a m).getD z) c m).map (ment ek ev)).toArray (mclk a m c))) := by
  simp only [Instr.mapEntry, Sem.run_bind, run_underlying ht, Result.andThen_ok, MapKept.run_getObj_map h, K.ok, findKey_run (ev := ev) K a]
  have hi := idx_mem a m
  rw [mput_idx, mget_idx]
  unfold mclk mstamp
  cases hq : m.findIdx? (fun x => decide (a = x.1)) with
  | none =>
    rw [hq] at hi
    have hn : a ∉ mkeys m := by simpa using hi
    simp [MapKept.run_setObj_map _ h, setBlock, hn, ment, hz]
  | some j =>
    rw [hq] at hi
    have hn : a ∈ mkeys m := by simpa using hi
    have hj : j < m.length := by
      have := List.findIdx?_eq_some_iff_findIdx_eq.1 hq
      omega
    have ha : a = (m[j]).1 := by
      obtain ⟨hp, hb⟩ := List.findIdx?_eq_some_iff_getElem.1 hq
      simpa using hb.1
    have hk : (Instr.keyThatStays (ek a) (ek a)).run P w = .ok (ek a) w := by simp [Instr.keyThatStays, K.same]
    have hke : ek (m[j]).1 = ek a := by rw [← ha]
    simp only [List.getElem?_eq_getElem hj, Option.map_some, Sem.run_bind, Sem.run_pure, List.getElem?_toArray, List.getElem?_map, Option.getD_some, ment, hke, hk, Result.andThen_ok, MapKept.run_setObj_map _ h, setBlock, hn, if_true]
    congr 4
    apply Array.ext'
    rw [Array.toList_modify]
    apply List.ext_getElem?
    intro i
    simp only [List.getElem?_modify, List.getElem?_map]
    by_cases hij : j = i
    · subst hij; simp [List.getElem?_eq_getElem hj, ment]
    · simp [hij]
theorem MapAt.estore (h : MapAt ek ev w r m c) (ok : MOk m c) (a : κ) (hn : a ∈ mkeys m) (v : ν) :
    (Instr.entryStore t (.map (some r)) (goInt (mstamp a m c)) (ev v)).run P w = .ok () (setBlock w r (.map ((mput a v c m).map (ment ek ev)).toArray c)) := by
  have hi := idx_mem a m
  rw [mput_idx]
  unfold mstamp
  cases hq : m.findIdx? (fun x => decide (a = x.1)) with
  | none =>
    rw [hq] at hi
    simp [hn] at hi
  | some j =>
    have hj : j < m.length := by
      have := List.findIdx?_eq_some_iff_findIdx_eq.1 hq
      omega
    have ha : a = (m[j]).1 := by
      obtain ⟨hp, hb⟩ := List.findIdx?_eq_some_iff_getElem.1 hq
      simpa using hb.1
    have hst : ((m.map (ment ek ev)).map (·.born)).Nodup := by
      have : (m.map (ment ek ev)).map (·.born) = m.map (·.2.2) := by simp [ment, Function.comp_def]
      rw [this]; exact ok.stamps
    have hidx : ((m.map (ment ek ev)).toArray).findIdx? (fun e => ((e.born : Nat) : Int) == (((m[j]).2.2 : Nat) : Int)) = some j := by
      rw [WideElems.findIdx_arr]
      have := WideElems.findIdx_born (l := m.map (ment ek ev)) (j := j) (e0 := ment ek ev m[j]) hst (by simp [hj])
      simpa [ment] using this
    simp only [Instr.entryStore, Sem.run_bind, MapKept.run_getObj_map h, Result.andThen_ok, List.getElem?_eq_getElem hj, Option.map_some, Option.getD_some]
    simp only [asInt, asIntOf, goInt, Sem.run_bind, Sem.run_pure, Result.andThen_ok, hidx, MapKept.run_setObj_map _ h, setBlock]
    congr 4
    apply Array.ext'
    rw [Array.toList_modify]
    apply List.ext_getElem?
    intro i
    simp only [List.getElem?_modify, List.getElem?_map]
    by_cases hij : j = i
    · subst hij; simp [List.getElem?_eq_getElem hj, ment, ← ha]
    · simp [hij]
theorem mput_mem (a : κ) (v : ν) (c : Nat) (m : List (κ × ν × Nat)) : a ∈ mkeys (mput a v c m) := by
  rw [mkeys_put]
  split
  · assumption
  · simp
theorem mput_put (a : κ) (v v0 : ν) (c c1 : Nat) : ∀ m : List (κ × ν × Nat), mput a v c1 (mput a v0 c m) = mput a v c m
  | [] => by simp [mput]
  | x :: q => by
    by_cases h : a = x.1
    · simp [mput, h]
    · simp [mput, h, mput_put a v v0 c c1 q]
theorem mstamp_put (a : κ) (v : ν) (c c1 : Nat) : ∀ m : List (κ × ν × Nat), mstamp a (mput a v c m) c1 = mstamp a m c
  | [] => by simp [mput, mstamp, List.findIdx?_cons]
  | x :: q => by
    have ih := mstamp_put a v c c1 q
    unfold mput
    by_cases h : a = x.1
    · rw [if_pos h]
      simp [mstamp, List.findIdx?_cons, h]
    · rw [if_neg h]
      have e : ∀ (l : List (κ × ν × Nat)) (d : Nat), mstamp a (x :: l) d = mstamp a l d := fun l d => by
        unfold mstamp
        rw [List.findIdx?_cons]
        simp only [h, decide_false, Bool.false_eq_true, if_false]
        cases l.findIdx? (fun x => decide (a = x.1)) <;> simp
      rw [e, e, ih]
end
end Go.Proofs.Ytpoaomdpcoaolaa

/- A region that draws its order and turns one map: what it reads holds while the map is turned. Conditions: the Bool 'ordB' over the region; the reads hold in every world of the class. -/
namespace Go.Proofs.Ytpoaomdpcoaolaa
open Go.RowKit Go.ChangeMaps

/-- A world that is as w was below block B, and of which p holds. -/
def BelM (B : Nat) (w : World) (p : World → Prop) : Type := { x : World // Below B w x ∧ p x }
section
variable {B : Nat} {w w' : World} {p : World → Prop}
def BelM.val (g : BelM B w p) : World := g.1
theorem BelM.below (g : BelM B w p) : Below B w g.val := g.2.1
theorem BelM.has (g : BelM B w p) : p g.val := g.2.2
@[go_sem] theorem BelM.cellAt (g : BelM B w p) (b o : Nat) (h : b < B) : g.val.cell? ⟨b, o, none⟩ = w.cell? ⟨b, o, none⟩ := g.2.1.cell (p := ⟨b, o, none⟩) h
@[go_sem] theorem BelM.frozenAt (g : BelM B w p) (b o : Nat) (h : b < B) : g.val.frozen? ⟨b, o, none⟩ = w.frozen? ⟨b, o, none⟩ := g.2.1.frozen (p := ⟨b, o, none⟩) h
theorem BelM.ex (h : Below B w w') (hp : p w') : ∃ g : BelM B w p, w' = g.val := ⟨⟨w', h, hp⟩, rfl⟩
theorem BelM.none_empty (h : Below B w w') (hp : p w') : Nonempty (BelM B w p) := ⟨⟨w', h, hp⟩⟩
theorem bl_setBlock {a : World} {r : Nat} {o : Obj} (h : Below B a w) (hr : B ≤ r) : Below B a (setBlock w r o) :=
  h.trans ⟨rfl, rfl, rfl, by simp [setBlock], fun k hk => by
    show (w.heap.setIfInBounds r o)[k]? = _
    rw [Array.getElem?_setIfInBounds_ne (by omega)]⟩
end

section
variable {P : Program} {ops : Array Oper} {Q : Exit → Act → World → Prop} {C : World → Prop}
theorem wp_region_ordm {id : Nat} {a : Act} {w : World} {l : List Oper} (B : Nat) (p : World → Prop) (pre : List Nat) (mid : List (Nat × Bool)) (post : List Nat) (hm : P.follows .mixedOrders = true) (hB : ordB .any l.toArray pre mid post = true)
    (hQ : ∀ d c a v w, Q (.panic c) (Act.put a d v) w → Q (.panic c) a w) (hp : p w.drew)
    (h : wpQuiet P l.toArray (fun w' => ∃ g : BelM B w p, w' = g.val) (fun a' => wpMid P l.toArray Q (fun w' => ∃ g : BelM B w p, w' = g.val) (post.map fun i => l.getD i default) (mid.map fun i => (l.getD i.1 default, i.2)) a' w.drew) (pre.map fun i => l.getD i default) a) :
    (Code.region id l.toArray true).wp P Q a w := by
  simp only [ordB, Bool.and_eq_true, decide_eq_true_eq] at hB
  obtain ⟨⟨hs, hn⟩, hB'⟩ := hB
  refine wp_region_any hm (wpAny_of_G (C := fun w' => ∃ g : BelM B w p, w' = g.val) (kp := fun j => !post.contains j) _ _ _ _ ?_)
  rw [hn, Nat.add_assoc]
  refine wpAnyG_pre hs hQ (BelM.ex (Below.refl B w).drew hp) pre _ a (Closed.start _) (by simpa [hn, Nat.add_assoc] using hB') ?_
  have e : ∀ (xs : List Nat), (xs.map fun i => l.toArray.getD i default) = xs.map fun i => l.getD i default := fun xs => List.map_congr_left fun i _ => by simp [Array.getD_eq_getD_getElem?, List.getD_eq_getElem?_getD]
  have e2 : (mid.map fun i => (l.toArray.getD i.1 default, i.2)) = mid.map fun i => (l.getD i.1 default, i.2) := List.map_congr_left fun i _ => by simp [Array.getD_eq_getD_getElem?, List.getD_eq_getElem?_getD]
  rw [e, e, e2]
  exact h
unseal wpMid in
/-- an operation that is carried out; behind it the class is shown again -/
theorem wpMid_runm {B : Nat} {p : World → Prop} {w0 : World} {post : List Oper} {o : Oper} {r : List (Oper × Bool)} {a : Act} {w : World} (hw : Region.wanted o (yielded ops a.tmps) = true)
    (h : ∀ K : Act → World → Prop, (∀ a w', Below B w0 w' → p w' → wpMid P ops Q (fun w' => ∃ g : BelM B w0 p, w' = g.val) post r a w' → K a w') → o.wp P a w K Q) :
    wpMid P ops Q (fun w' => ∃ g : BelM B w0 p, w' = g.val) post ((o, false) :: r) a w := by
  have := h (fun a w' => (∃ g : BelM B w0 p, w' = g.val) ∧ wpMid P ops Q (fun w' => ∃ g : BelM B w0 p, w' = g.val) post r a w') (fun a w h1 h2 h3 => ⟨BelM.ex h1 h2, h3⟩)
  simp only [wpMid, Bool.false_eq_true, if_false, hw, if_true]
  exact this
end

section
variable {κ : Type} [DecidableEq κ]
variable {ek : κ → Value} {w : World} {r : Nat} {m : List (κ × Nat × Nat)} {c : Nat} {P : Program} {k e t : TypeId}
/-- how a count lies in a map -/
def cntV (n : Nat) : Value := .int .i64 (n : Int)
/-- 'm[k]++', its operations apart -/
theorem MapAt.incr (h : MapAt ek cntV w r m c) (ok : MOk m c) (K : KeyLaw P k ek) (ht : P.underlying t = some (.map k e)) (hz : ∀ u : World, (zeroValue e).run P u = .ok (.int .i64 0) u) (a : κ) {v0 : Nat} (hv : (mget a m).getD 0 = v0) :
    ∃ (w1 w2 : World) (sm c2 : Nat), (Instr.mapEntry t (.map (some r)) (ek a)).run P w = .ok (.tuple #[.int .i64 (v0 : Int), .int .i64 (sm : Int)]) w1 ∧
      (Instr.lookup t (.map (some r)) (ek a) false).run P w = .ok (.int .i64 (v0 : Int)) w ∧ (Instr.lookup t (.map (some r)) (ek a) false).run P w1 = .ok (.int .i64 (v0 : Int)) w1 ∧
      (Instr.entryStore t (.map (some r)) (.int .i64 (sm : Int)) (.int .i64 ((v0 + 1 : Nat) : Int))).run P w1 = .ok () w2 ∧
      MapAt ek cntV w2 r (mput a (v0 + 1) c m) c2 ∧ MOk (mput a (v0 + 1) c m) c2 ∧ (∀ B, B ≤ r → Below B w w1) ∧ (∀ B, B ≤ r → Below B w w2) := by
  have hlt := h.lt
  have e1 := h.entry K ht (z := 0) (hz w) a
  rw [hv] at e1
  have h1 : MapAt ek cntV (setBlock w r (.map ((mput a v0 c m).map (ment ek cntV)).toArray (mclk a m c))) r (mput a v0 c m) (mclk a m c) := by
    show (w.heap.setIfInBounds r _)[r]? = _
    rw [Array.getElem?_setIfInBounds_self_of_lt hlt]
  have ok1 := ok.put a v0
  have e2 := h.look K ht (hz w) a
  have e3 := h1.look K ht (hz _) a
  have e4 := h1.estore (t := t) ok1 a (mput_mem a v0 c m) (v0 + 1) (P := P)
  rw [mput_put, mstamp_put] at e4
  have h2 : MapAt ek cntV (setBlock (setBlock w r (.map ((mput a v0 c m).map (ment ek cntV)).toArray (mclk a m c))) r (.map ((mput a (v0 + 1) c m).map (ment ek cntV)).toArray (mclk a m c))) r (mput a (v0 + 1) c m) (mclk a m c) := by
    show ((w.heap.setIfInBounds r _).setIfInBounds r _)[r]? = _
    rw [Array.getElem?_setIfInBounds_self_of_lt (by simp; exact hlt)]
  refine ⟨_, _, mstamp a m c, mclk a m c, ?_, ?_, ?_, e4, h2, ok.put a (v0 + 1), fun B hB => bl_setBlock (Below.refl _ _) hB, fun B hB => bl_setBlock (bl_setBlock (Below.refl _ _) hB) hB⟩
  · exact e1
  · rw [e2]
    cases hm : mget a m with
    | none => rw [hm] at hv; obtain rfl : 0 = v0 := hv; rfl
    | some q => rw [hm] at hv; obtain rfl : q = v0 := hv; rfl
  · rw [e3, mget_put, if_pos rfl]; rfl
end
end Go.Proofs.Ytpoaomdpcoaolaa

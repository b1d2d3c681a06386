/- The checks of bars and nets of chapter 1, walked, the program's and the reference's. Conditions: bars' parts are whole numbers of 64 bits; a net's slice reads as a list. -/
import Derived.Test.YtmjfkgbbhplhcaaGreatDoorG02
namespace Go.Proofs.YtmjfkgbbhplhcaaGreatDoor
open Go.RowKit
set_option maxHeartbeats 400000
set_option maxRecDepth 100000

/-! ## plain -/
abbrev Bar := Int × Int × Int
abbrev Knot := Int × Int
/-- the error of a bar -/
def barE (x y s : Int) : Int := if knotE x y ≠ 0 then knotE x y else if s ≠ 1 ∧ s ≠ -1 then 13 else knotE (x + s) (y + 1)
def cmpI (a b : Int) : Int := if a < b then -1 else if b < a then 1 else 0
def barCmp (x y s x' y' s' : Int) : Int := firstI [cmpI y y', cmpI x x', cmpI s s']
def barLt (x y s x' y' s' : Int) : Bool := decide (y < y' ∨ y = y' ∧ (x < x' ∨ x = x' ∧ s < s'))
theorem barCmp_lt (x y s x' y' s' : Int) : decide (0 ≤ barCmp x y s x' y' s') = !barLt x y s x' y' s' := by
  unfold barCmp barLt cmpI
  rw [Bool.eq_iff_iff]
  simp only [firstI, Bool.not_eq_true', decide_eq_false_iff_not]
  by_cases h1 : y < y' <;> by_cases h2 : y' < y <;> by_cases h3 : x < x' <;> by_cases h4 : x' < x <;> by_cases h5 : s < s' <;> by_cases h6 : s' < s <;> simp [h1, h2, h3, h4, h5, h6] <;> omega
/-- the error of a net's bars from one on, the bar before known -/
def netGo : Option Bar → List Bar → Int
  | _, [] => 0
  | p, b :: r => if barE b.1 b.2.1 b.2.2 ≠ 0 then barE b.1 b.2.1 b.2.2 else
      if (p.map fun q => !barLt q.1 q.2.1 q.2.2 b.1 b.2.1 b.2.2) = some true then 11 else netGo (some b) r
def netE (l : List Bar) : Int := if 4096 < l.length then 5 else netGo none l
def prevB (l : List Bar) (k : Nat) : Option Bar := if k = 0 then none else l[k - 1]?
theorem netGo_drop {l : List Bar} {k : Nat} (h : k < l.length) : netGo (prevB l k) (l.drop k) =
    if barE l[k].1 l[k].2.1 l[k].2.2 ≠ 0 then barE l[k].1 l[k].2.1 l[k].2.2 else
      if ((prevB l k).map fun q => !barLt q.1 q.2.1 q.2.2 l[k].1 l[k].2.1 l[k].2.2) = some true then 11 else netGo (prevB l (k + 1)) (l.drop (k + 1)) := by
  rw [List.drop_eq_getElem_cons h]
  have : prevB l (k + 1) = some l[k] := by simp [prevB, List.getElem?_eq_getElem h]
  rw [this]; rfl
theorem prevB_pos {l : List Bar} {k : Nat} (h : k < l.length) (h0 : 0 < k) : prevB l k = some (l[k - 1]'(by omega)) := by
  rw [prevB, if_neg (by omega), List.getElem?_eq_getElem]

/-! ## cells of bars and knots -/
def bc (b : Bar) : List Value := [.int .i64 b.1, .int .i64 b.2.1, .int .i64 b.2.2]
def kc (k : Knot) : List Value := [.int .i64 k.1, .int .i64 k.2]
theorem bc_len (b : Bar) : (bc b).length = 3 := rfl
theorem kc_len (b : Knot) : (kc b).length = 2 := rfl
theorem Rd.bar {w : World} {A : Option Addr} {l : List Bar} (h : Rd bc 3 w A l) {k : Nat} (hk : k < l.length) : ∃ b off, A = some ⟨b, off, none⟩ ∧ b < w.heap.size ∧
    w.cell? ⟨b, off + k * 3, none⟩ = some (.int .i64 l[k].1) ∧ w.cell? ⟨b, off + k * 3 + 1, none⟩ = some (.int .i64 l[k].2.1) ∧ w.cell? ⟨b, off + k * 3 + 2, none⟩ = some (.int .i64 l[k].2.2) := by
  obtain ⟨b, off, e, hlt, hc⟩ := h k l[k] (List.getElem?_eq_getElem hk)
  exact ⟨b, off, e, hlt, by simpa using hc 0 _ rfl, hc 1 _ rfl, hc 2 _ rfl⟩
theorem Rd.knot {w : World} {A : Option Addr} {l : List Knot} (h : Rd kc 2 w A l) {k : Nat} (hk : k < l.length) : ∃ b off, A = some ⟨b, off, none⟩ ∧ b < w.heap.size ∧
    w.cell? ⟨b, off + k * 2, none⟩ = some (.int .i64 l[k].1) ∧ w.cell? ⟨b, off + k * 2 + 1, none⟩ = some (.int .i64 l[k].2) := by
  obtain ⟨b, off, e, hlt, hc⟩ := h k l[k] (List.getElem?_eq_getElem hk)
  exact ⟨b, off, e, hlt, by simpa using hc 0 _ rfl, hc 1 _ rfl⟩

theorem Rd.barAt {w : World} {b off : Nat} {l : List Bar} (h : Rd bc 3 w (some ⟨b, off, none⟩) l) {k : Nat} (hk : k < l.length) : b < w.heap.size ∧
    w.cell? ⟨b, off + k * 3, none⟩ = some (.int .i64 l[k].1) ∧ w.cell? ⟨b, off + k * 3 + 1, none⟩ = some (.int .i64 l[k].2.1) ∧ w.cell? ⟨b, off + k * 3 + 2, none⟩ = some (.int .i64 l[k].2.2) := by
  obtain ⟨b', off', e, hlt, h1, h2, h3⟩ := h.bar hk
  obtain ⟨rfl, rfl⟩ : b = b' ∧ off = off' := by simpa using e
  exact ⟨hlt, h1, h2, h3⟩
theorem Rd.knotAt {w : World} {b off : Nat} {l : List Knot} (h : Rd kc 2 w (some ⟨b, off, none⟩) l) {k : Nat} (hk : k < l.length) : b < w.heap.size ∧
    w.cell? ⟨b, off + k * 2, none⟩ = some (.int .i64 l[k].1) ∧ w.cell? ⟨b, off + k * 2 + 1, none⟩ = some (.int .i64 l[k].2) := by
  obtain ⟨b', off', e, hlt, h1, h2⟩ := h.knot hk
  obtain ⟨rfl, rfl⟩ : b = b' ∧ off = off' := by simpa using e
  exact ⟨hlt, h1, h2⟩

/-- an end out of two -/
@[go_sem] theorem idx_ends0 (a b c d : Int) (w : World) : (Instr.index 222 (.agg #[.int .i64 a, .int .i64 b, .int .i64 c, .int .i64 d]) (.int .i64 0)).run Tryz.prog w = .ok (.agg #[.int .i64 a, .int .i64 b]) w := by kernel_rfl
@[go_sem] theorem idx_ends1 (a b c d : Int) (w : World) : (Instr.index 222 (.agg #[.int .i64 a, .int .i64 b, .int .i64 c, .int .i64 d]) (.int .i64 1)).run Tryz.prog w = .ok (.agg #[.int .i64 c, .int .i64 d]) w := by kernel_rfl

/-! ## walks -/
theorem knotE_zero {x y : Int} (h : knotE x y = 0) : -100000 ≤ x ∧ x ≤ 100000 ∧ -100000 ≤ y ∧ y ≤ 100000 ∧ (x + y) % 2 = 0 := by
  unfold knotE farB at h
  split at h
  · simp at h
  · rename_i h1
    simp at h1
    split at h
    · omega
    · simp at h
theorem isNaN_any (n : Int) (w : World) : Calls Tryz.prog 164 #[.int .i64 n] w (RV w (.bool false)) := by
  have h : (n != n) = false := by simp
  go_enter Tryz.func164, Tryz.ntmps164
  go_wp2
  go_ret
  exact ⟨ret_bool (by simp), bl_refl⟩
theorem cmp_any (a b : Int) (w : World) : Calls Tryz.prog 150 #[.int .i64 a, .int .i64 b] w (RV w (.int .i64 (cmpI a b))) := by
  go_enter Tryz.func150, Tryz.ntmps150
  go_wp2_with (go_at_call 164; refine (isNaN_any _ _).mono ?_; rintro e w1 ⟨rfl, hb1⟩)
  all_goals go_ret
  all_goals refine ⟨ret_int ?_, by (repeat (first | exact bl_refl | assumption | (apply bl_then; assumption) | refine bl_alloc ?_ _ | refine bl_drew ?_ | refine bl_drewN ?_ _))⟩
  · have h : a < b := by assumption
    simp [cmpI, h]
  · have h : b < a := by assumption
    have h' : ¬ a < b := by omega
    simp [cmpI, h, h']
  · have h : b ≤ a := by assumption
    have h'' : a ≤ b := by assumption
    have h1 : ¬ a < b := by omega
    have h2 : ¬ b < a := by omega
    simp [cmpI, h1, h2]

theorem or_any (l : List Int) (A : Option Addr) (c : Nat) (w : World) (hl : l.length ≤ maxLen) (h : Rd ic 1 w A l) :
    Calls Tryz.prog 149 #[.slice A l.length c] w (RV w (.int .i64 (firstI l))) := by
  unfold maxLen at hl
  go_enter Tryz.func149, Tryz.ntmps149
  go_wp2
  go_loop [8] (fun i => ∃ k : Nat, k ≤ l.length ∧ i = .int .i64 k ∧ Hid (firstI l = firstI (l.drop k))) (fun i => l.length - (intOf i).toNat)
  case atStart => exact ⟨0, Nat.zero_le _, rfl, rfl⟩
  case round =>
    obtain ⟨k, hk, rfl, H⟩ := hrel
    by_cases hlt : k < l.length
    · obtain ⟨b, off, rfl, hb, hc⟩ := h.int hlt
      have hd := Lib.hid (firstI_drop hlt)
      go_wp2
      · have hne : (l[k] != 0) = true := by assumption
        go_ret
        refine ⟨ret_int ?_, bl_refl⟩
        rw [H.out, hd.out, if_neg (by simpa using hne)]
      · have hne : (l[k] != 0) = false := by assumption
        go_round
        case rel => exact ⟨k + 1, by omega, by go_num, by rw [H.out, hd.out, if_pos (by simpa using hne)]; rfl⟩
        case measure => simp [intOf]; omega
    · have hkl : k = l.length := by omega
      go_wp2
      go_ret
      refine ⟨ret_int ?_, bl_refl⟩
      rw [H.out, hkl, List.drop_length]; rfl

theorem ncompare_any (x y s x' y' s' : Int) (w : World) :
    Calls Tryz.prog 137 #[.agg #[.int .i64 x, .int .i64 y, .int .i64 s], .agg #[.int .i64 x', .int .i64 y', .int .i64 s']] w (RV w (.int .i64 (barCmp x y s x' y' s'))) := by
  go_enter Tryz.func137, Tryz.ntmps137
  go_wp2
  refine wp_region_ords [0, 1, 2, 3, 5, 6, 7, 8, 10, 11, 12, 13] [(4, false), (9, false)] [14, 15, 16, 17] (by kernel_rfl) (by kernel_rfl) (fun d _ _ _ _ h => by cases d <;> exact h) ?_
  simp only [List.map_cons, List.map_nil, List.getD_cons_zero, List.getD_cons_succ]
  repeat (go_big_quiet_step (fail))
  refine wpQuiet_nil ?_
  refine wpMid_run rfl (fun K hK => ?_)
  go_simp
  refine (cmp_any _ _ _).mono ?_
  rintro e w1 ⟨rfl, hb1⟩
  refine hK _ _ (by (repeat (first | exact bl_refl | assumption | (apply bl_then; assumption) | refine bl_alloc ?_ _ | refine bl_drew ?_ | refine bl_drewN ?_ _))) ?_
  clear hK K
  refine wpMid_run rfl (fun K hK => ?_)
  go_simp
  refine (cmp_any _ _ _).mono ?_
  rintro e w2 ⟨rfl, hb2⟩
  refine hK _ _ (by (repeat (first | exact bl_refl | assumption | (apply bl_then; assumption) | refine bl_alloc ?_ _ | refine bl_drew ?_ | refine bl_drewN ?_ _))) ?_
  clear hK K
  refine wpMid_nil ?_
  go_wp2_with (first | (go_at_call 150; refine (cmp_any _ _ _).mono ?_; rintro e w3 ⟨rfl, hb3⟩) | (go_at_call 149; go_must (refine (or_any [cmpI y y', cmpI x x', cmpI s s'] _ _ _ (by simp [maxLen]) (Rd.ints3 (by simp) (by go_simp) (by go_simp) (by go_simp))).mono ?_); rintro e w4 ⟨rfl, hb4⟩))
  go_ret
  exact ⟨rfl, by (repeat (first | exact bl_refl | assumption | (apply bl_then; assumption) | refine bl_alloc ?_ _ | refine bl_drew ?_ | refine bl_drewN ?_ _))⟩

theorem nends_any (x y s : Int) (hx : -1000000 ≤ x ∧ x ≤ 1000000) (hy : -1000000 ≤ y ∧ y ≤ 1000000) (hs : -10 ≤ s ∧ s ≤ 10) (w : World) :
    Calls Tryz.prog 163 #[.agg #[.int .i64 x, .int .i64 y, .int .i64 s]] w (RV w (.agg #[.int .i64 x, .int .i64 y, .int .i64 (x + s), .int .i64 (y + 1)])) := by
  go_enter Tryz.func163, Tryz.ntmps163
  go_wp2
  refine bodyPost_ret (v := .agg #[.int .i64 x, .int .i64 y, .int .i64 (x + s), .int .i64 (y + 1)]) (by simp [results, Tryz.results163, go_sem]) rfl ?_
  exact ⟨rfl, by (repeat (first | exact bl_refl | assumption | (apply bl_then; assumption) | refine bl_alloc ?_ _ | refine bl_drew ?_ | refine bl_drewN ?_ _))⟩

theorem knotE_step {x y s : Int} (h : knotE x y = 0) (hs : s = 1 ∨ s = -1) : knotE (x + s) (y + 1) = reachI (x + s) (y + 1) := by
  obtain ⟨_, _, _, _, hp⟩ := knotE_zero h
  rw [reachI_far]
  unfold knotE
  by_cases h1 : (farB (x + s) || farB (y + 1)) = true
  · rw [if_pos h1, if_pos h1]
  · rw [if_neg h1, if_neg h1, if_pos (by omega)]

theorem nbar_any (x y s : Int) (w : World) : Calls Tryz.prog 148 #[.agg #[.int .i64 x, .int .i64 y, .int .i64 s]] w (RV w (.int .i64 (barE x y s))) := by
  have hB := Blk.new w 81 #[.int .i64 x, .int .i64 y, .int .i64 s]
  by_cases hs : s = 1 ∨ s = -1
  · by_cases h0 : knotE x y = 0
    · obtain ⟨hx1, hx2, hy1, hy2, hp⟩ := knotE_zero h0
      have HB : Hid (barE x y s = reachI (x + s) (y + 1)) := by
        unfold barE; rw [if_neg (by simpa using h0), if_neg (by omega), knotE_step h0 hs]; rfl
      have hF : (firstI [knotE x y, whenI false 13] != 0) = false := by simp [h0, firstI, whenI]
      clear h0 hp
      rcases hs with rfl | rfl
      all_goals
        go_enter Tryz.func148, Tryz.ntmps148
        go_wp2
        refine wp_region_ords [0, 1, 2, 3, 4, 6, 7, 8] [(5, false)] [9, 10, 11, 12, 13, 14, 15, 16, 17] (by kernel_rfl) (by kernel_rfl) (fun d _ _ _ _ h => by cases d <;> exact h) ?_
        simp only [List.map_cons, List.map_nil, List.getD_cons_zero, List.getD_cons_succ]
        repeat (go_big_quiet_step (fail))
        refine wpQuiet_nil ?_
        refine wpMid_run rfl (fun K hK => ?_)
        go_simp
        refine (nknot_any _ _ _).mono ?_
        rintro e w1 ⟨rfl, hb1⟩
        refine hK _ _ (by (repeat (first | exact bl_refl | assumption | (apply bl_then; assumption) | refine bl_alloc ?_ _ | refine bl_drew ?_ | refine bl_drewN ?_ _))) ?_
        clear hK K
        (first | replace hB := hB.st0 hb1 | replace hB := hB.st1 hb1 | replace hB := hB.std hb1 | replace hB := hB.std1 hb1 | replace hB := hB.st2 hb1 | replace hB := hB.std2 hb1 | replace hB := hB.st3 hb1)
        have kB := hB.facts
        refine wpMid_nil ?_
        go_wp2_with (first | (go_at_call 104; refine (nwhen_any _ _ _).mono ?_; rintro e w1 ⟨rfl, hb1⟩; (first | replace hB := hB.st0 hb1 | replace hB := hB.st1 hb1 | replace hB := hB.std hb1 | replace hB := hB.std1 hb1 | replace hB := hB.st2 hb1 | replace hB := hB.std2 hb1 | replace hB := hB.st3 hb1); have kB := hB.facts) | (go_at_call 101; refine (nfirst_any [knotE x y, whenI false 13] _ _ _ (by simp [maxLen]) (Rd.ints2 (by simp) (by go_simp) (by go_simp))).mono ?_; rintro e w1 ⟨rfl, hb1⟩; (first | replace hB := hB.st0 hb1 | replace hB := hB.st1 hb1 | replace hB := hB.std hb1 | replace hB := hB.std1 hb1 | replace hB := hB.st2 hb1 | replace hB := hB.std2 hb1 | replace hB := hB.st3 hb1); have kB := hB.facts) | (go_at_call 163; refine (nends_any _ _ _ (by omega) (by omega) (by omega) _).mono ?_; rintro e w1 ⟨rfl, hb1⟩) | (go_at_call 105; refine (nreach_any _ _ _).mono ?_; rintro e w1 ⟨rfl, hb1⟩))
        go_ret
        exact ⟨ret_int (by rw [HB.out]), by (repeat (first | exact bl_refl | assumption | (apply bl_then; assumption) | refine bl_alloc ?_ _ | refine bl_drew ?_ | refine bl_drewN ?_ _))⟩
    · have HB : Hid (barE x y s = firstI [knotE x y, whenI false 13]) := by unfold barE; rw [if_pos h0]; simp [firstI, h0, Hid]
      have hF : (firstI [knotE x y, whenI false 13] != 0) = true := by simp [h0, firstI]
      clear h0
      rcases hs with rfl | rfl
      all_goals
        go_enter Tryz.func148, Tryz.ntmps148
        go_wp2
        refine wp_region_ords [0, 1, 2, 3, 4, 6, 7, 8] [(5, false)] [9, 10, 11, 12, 13, 14, 15, 16, 17] (by kernel_rfl) (by kernel_rfl) (fun d _ _ _ _ h => by cases d <;> exact h) ?_
        simp only [List.map_cons, List.map_nil, List.getD_cons_zero, List.getD_cons_succ]
        repeat (go_big_quiet_step (fail))
        refine wpQuiet_nil ?_
        refine wpMid_run rfl (fun K hK => ?_)
        go_simp
        refine (nknot_any _ _ _).mono ?_
        rintro e w1 ⟨rfl, hb1⟩
        refine hK _ _ (by (repeat (first | exact bl_refl | assumption | (apply bl_then; assumption) | refine bl_alloc ?_ _ | refine bl_drew ?_ | refine bl_drewN ?_ _))) ?_
        clear hK K
        (first | replace hB := hB.st0 hb1 | replace hB := hB.st1 hb1 | replace hB := hB.std hb1 | replace hB := hB.std1 hb1 | replace hB := hB.st2 hb1 | replace hB := hB.std2 hb1 | replace hB := hB.st3 hb1)
        have kB := hB.facts
        refine wpMid_nil ?_
        go_wp2_with (first | (go_at_call 104; refine (nwhen_any _ _ _).mono ?_; rintro e w1 ⟨rfl, hb1⟩) | (go_at_call 101; refine (nfirst_any [knotE x y, whenI false 13] _ _ _ (by simp [maxLen]) (Rd.ints2 (by simp) (by go_simp) (by go_simp))).mono ?_; rintro e w1 ⟨rfl, hb1⟩))
        go_ret
        exact ⟨ret_int (by rw [HB.out]), by (repeat (first | exact bl_refl | assumption | (apply bl_then; assumption) | refine bl_alloc ?_ _ | refine bl_drew ?_ | refine bl_drewN ?_ _))⟩
  · have h1 : (s != 1) = true := by simp; omega
    have h2 : (s != -1) = true := by simp; omega
    have HB : Hid (barE x y s = firstI [knotE x y, whenI true 13]) := by
      unfold barE
      by_cases h0 : knotE x y = 0
      · rw [if_neg (by simpa using h0), if_pos (by omega)]; simp [firstI, h0, whenI, Hid]
      · rw [if_pos h0]; simp [firstI, h0, Hid]
    have hF : (firstI [knotE x y, whenI true 13] != 0) = true := by
      by_cases h0 : knotE x y = 0 <;> simp [h0, firstI, whenI]
    clear hs
    go_enter Tryz.func148, Tryz.ntmps148
    go_wp2
    refine wp_region_ords [0, 1, 2, 3, 4, 6, 7, 8] [(5, false)] [9, 10, 11, 12, 13, 14, 15, 16, 17] (by kernel_rfl) (by kernel_rfl) (fun d _ _ _ _ h => by cases d <;> exact h) ?_
    simp only [List.map_cons, List.map_nil, List.getD_cons_zero, List.getD_cons_succ]
    repeat (go_big_quiet_step (fail))
    refine wpQuiet_nil ?_
    refine wpMid_run rfl (fun K hK => ?_)
    go_simp
    refine (nknot_any _ _ _).mono ?_
    rintro e w1 ⟨rfl, hb1⟩
    refine hK _ _ (by (repeat (first | exact bl_refl | assumption | (apply bl_then; assumption) | refine bl_alloc ?_ _ | refine bl_drew ?_ | refine bl_drewN ?_ _))) ?_
    clear hK K
    (first | replace hB := hB.st0 hb1 | replace hB := hB.st1 hb1 | replace hB := hB.std hb1 | replace hB := hB.std1 hb1 | replace hB := hB.st2 hb1 | replace hB := hB.std2 hb1 | replace hB := hB.st3 hb1)
    have kB := hB.facts
    refine wpMid_nil ?_
    go_wp2_with (first | (go_at_call 104; refine (nwhen_any _ _ _).mono ?_; rintro e w1 ⟨rfl, hb1⟩) | (go_at_call 101; refine (nfirst_any [knotE x y, whenI true 13] _ _ _ (by simp [maxLen]) (Rd.ints2 (by simp) (by go_simp) (by go_simp))).mono ?_; rintro e w1 ⟨rfl, hb1⟩))
    go_ret
    exact ⟨ret_int (by rw [HB.out]), by (repeat (first | exact bl_refl | assumption | (apply bl_then; assumption) | refine bl_alloc ?_ _ | refine bl_drew ?_ | refine bl_drewN ?_ _))⟩

theorem netGo_err {l : List Bar} {k : Nat} (h : k < l.length) (hE : barE l[k].1 l[k].2.1 l[k].2.2 ≠ 0) : netGo (prevB l k) (l.drop k) = barE l[k].1 l[k].2.1 l[k].2.2 := by
  rw [netGo_drop h, if_pos hE]
theorem netGo_first {l : List Bar} (h : 0 < l.length) (hE : barE (l[0]'h).1 (l[0]'h).2.1 (l[0]'h).2.2 = 0) : netGo (prevB l 0) (l.drop 0) = netGo (prevB l (0 + 1)) (l.drop (0 + 1)) := by
  rw [netGo_drop h, if_neg (by simpa using hE), if_neg (by simp [prevB])]
theorem netGo_late {l : List Bar} {k : Nat} (h : k < l.length) (h0 : 0 < k) (hE : barE l[k].1 l[k].2.1 l[k].2.2 = 0)
    (ho : barLt (l[k - 1]'(by omega)).1 (l[k - 1]'(by omega)).2.1 (l[k - 1]'(by omega)).2.2 l[k].1 l[k].2.1 l[k].2.2 = false) : netGo (prevB l k) (l.drop k) = 11 := by
  rw [netGo_drop h, if_neg (by simpa using hE), if_pos (by rw [prevB_pos h h0]; simp [ho])]
theorem netGo_next {l : List Bar} {k : Nat} (h : k < l.length) (h0 : 0 < k) (hE : barE l[k].1 l[k].2.1 l[k].2.2 = 0)
    (ho : barLt (l[k - 1]'(by omega)).1 (l[k - 1]'(by omega)).2.1 (l[k - 1]'(by omega)).2.2 l[k].1 l[k].2.1 l[k].2.2 = true) : netGo (prevB l k) (l.drop k) = netGo (prevB l (k + 1)) (l.drop (k + 1)) := by
  rw [netGo_drop h, if_neg (by simpa using hE), if_neg (by rw [prevB_pos h h0]; simp [ho])]

end Go.Proofs.YtmjfkgbbhplhcaaGreatDoor

/- Panels, plain: letters and outlines, errors of edges. Conditions: none. -/
namespace Go.Proofs.YtmjfkgbbhplhcaaGreatDoor
open Go.RowKit Go.ChangeMaps
set_option maxHeartbeats 4000000
set_option maxRecDepth 100000

/-! # Panels, plain: letters, outlines -/
/-- a letter and whether it leads outwards -/
abbrev Stp := UInt8 × Bool
/-- an edge: its word, how often, whether outwards -/
abbrev Edg := List UInt8 × Int × Bool
/-- a panel: name, width, left, right -/
abbrev Pan := List UInt8 × Int × List Edg × List Edg
def wordS (e : Edg) : List Stp := e.1.map fun c => (c, e.2.2)
def timS (e : Edg) : Nat → List Stp
  | 0 => []
  | n + 1 => timS e n ++ wordS e
def edgS (e : Edg) : List Stp := timS e e.2.1.toNat
def stpL (l : List Edg) : List Stp := l.flatMap edgS
theorem wordS_len (e : Edg) : (wordS e).length = e.1.length := by unfold wordS; simp
theorem timS_len (e : Edg) : ∀ n, (timS e n).length = n * e.1.length
  | 0 => by simp [timS]
  | n + 1 => by rw [timS, List.length_append, timS_len e n, wordS_len, Nat.succ_mul]
theorem edgS_len (e : Edg) : (edgS e).length = e.2.1.toNat * e.1.length := timS_len e _
theorem stpL_cons (e : Edg) (l : List Edg) : stpL (e :: l) = edgS e ++ stpL l := by unfold stpL; simp
theorem stpL_app (a b : List Edg) : stpL (a ++ b) = stpL a ++ stpL b := by unfold stpL; simp
theorem stpL_take {l : List Edg} {k : Nat} (hk : k < l.length) : stpL (l.take (k + 1)) = stpL (l.take k) ++ edgS l[k] := by
  rw [List.take_succ_eq_append_getElem hk, stpL_app]
  simp [stpL]
/-- the place behind a letter -/
def sideI (right : Bool) : Int := if right then 1 else -1
def aft (k : Knot) (c : UInt8) (right : Bool) : Knot := if c = 78 then (k.1, k.2 + 2) else if c = 66 then (k.1 + sideI right, k.2 + 1) else (k.1 + 2 * sideI right, k.2)
def stepK (right : Bool) (k : Knot) (s : Stp) : Knot := aft k s.1 (s.2 == right)
def posK (right : Bool) (k : Knot) (l : List Stp) : Knot := l.foldl (stepK right) k
def outK (right : Bool) (k : Knot) : List Stp → List Knot
  | [] => [k]
  | s :: r => k :: outK right (stepK right k s) r
theorem posK_app (right : Bool) (k : Knot) (a b : List Stp) : posK right k (a ++ b) = posK right (posK right k a) b := by unfold posK; rw [List.foldl_append]
theorem posK_snoc (right : Bool) (k : Knot) (a : List Stp) (s : Stp) : posK right k (a ++ [s]) = stepK right (posK right k a) s := by rw [posK_app]; rfl
theorem outK_len (right : Bool) : ∀ (l : List Stp) (k : Knot), (outK right k l).length = l.length + 1
  | [], _ => rfl
  | s :: r, k => by rw [outK, List.length_cons, outK_len right r, List.length_cons]
theorem outK_snoc (right : Bool) : ∀ (l : List Stp) (k : Knot) (s : Stp), outK right k (l ++ [s]) = outK right k l ++ [posK right k (l ++ [s])]
  | [], _, _ => rfl
  | a :: r, k, s => by
    rw [List.cons_append, outK, outK, outK_snoc right r, List.cons_append]
    rfl
theorem outK_get (right : Bool) : ∀ (l : List Stp) (k : Knot) (i : Nat) (h : i < (outK right k l).length), (outK right k l)[i] = posK right k (l.take i)
  | [], k, 0, _ => rfl
  | [], k, i + 1, h => by simp [outK] at h
  | s :: r, k, 0, _ => rfl
  | s :: r, k, i + 1, h => by
    have := outK_get right r (stepK right k s) i (by simpa [outK] using h)
    simpa [outK, posK] using this
theorem outK_ne (right : Bool) (k : Knot) (l : List Stp) : outK right k l ≠ [] := by cases l <;> simp [outK]
theorem outK_last (right : Bool) (k : Knot) (l : List Stp) : (outK right k l)[l.length]? = some (posK right k l) := by
  have h : l.length < (outK right k l).length := by rw [outK_len]; omega
  rw [List.getElem?_eq_getElem h, outK_get, List.take_length]
theorem step_near {right : Bool} {k : Knot} {s : Stp} {n : Int} (h : -n ≤ k.1 ∧ k.1 ≤ n ∧ 0 ≤ k.2 ∧ k.2 ≤ n) : -(n + 2) ≤ (stepK right k s).1 ∧ (stepK right k s).1 ≤ n + 2 ∧ 0 ≤ (stepK right k s).2 ∧ (stepK right k s).2 ≤ n + 2 := by
  unfold stepK aft sideI
  split
  · simp only; omega
  · split
    · simp only; split <;> omega
    · simp only; split <;> omega
theorem end_near {right : Bool} {n : Int} : ∀ (l : List Stp) {k : Knot} (_ : -n ≤ k.1 ∧ k.1 ≤ n ∧ 0 ≤ k.2 ∧ k.2 ≤ n), -(n + 2 * l.length) ≤ (posK right k l).1 ∧ (posK right k l).1 ≤ n + 2 * l.length ∧ 0 ≤ (posK right k l).2 ∧ (posK right k l).2 ≤ n + 2 * l.length := by
  intro l
  induction l generalizing n with
  | nil => intro k h; simpa [posK] using h
  | cons s r ih =>
    intro k h
    have := ih (n := n + 2) (k := stepK right k s) (step_near h)
    rw [List.length_cons]
    show -(n + 2 * ((r.length + 1 : Nat) : Int)) ≤ (posK right (stepK right k s) r).1 ∧ _
    simp only [posK] at this ⊢
    simp only [List.foldl_cons]
    omega
/-- how many rows letters lead up -/
def riseC (c : UInt8) : Int := if c = 78 then 2 else if c = 66 then 1 else 0
def riseL (l : List Stp) : Int := (l.map fun s => riseC s.1).sum
theorem riseL_app (a b : List Stp) : riseL (a ++ b) = riseL a + riseL b := by unfold riseL; simp
theorem riseL_cons (s : Stp) (b : List Stp) : riseL (s :: b) = riseC s.1 + riseL b := by unfold riseL; simp
theorem riseC_range (c : UInt8) : 0 ≤ riseC c ∧ riseC c ≤ 2 := by
  unfold riseC
  split
  · omega
  · split <;> omega
theorem riseL_range : ∀ l : List Stp, 0 ≤ riseL l ∧ riseL l ≤ 2 * l.length
  | [] => by simp [riseL]
  | s :: r => by
    have := riseL_range r
    have := riseC_range s.1
    rw [riseL_cons, List.length_cons]
    omega
theorem step_y (right : Bool) (k : Knot) (s : Stp) : (stepK right k s).2 = k.2 + riseC s.1 := by
  unfold stepK aft riseC
  split
  · rfl
  · split
    · rfl
    · simp
theorem end_y (right : Bool) : ∀ (l : List Stp) (k : Knot), (posK right k l).2 = k.2 + riseL l
  | [], k => by simp [posK, riseL]
  | s :: r, k => by
    have := end_y right r (stepK right k s)
    rw [riseL_cons]
    show (posK right (stepK right k s) r).2 = _
    rw [this, step_y]
    omega
/-- a panel's sides, outlines, height -/
def sideP (p : Pan) (right : Bool) : List Edg := if right then p.2.2.2 else p.2.2.1
def fromP (p : Pan) (right : Bool) : Knot := if right then (2 * p.2.1, 0) else (0, 0)
def outP (p : Pan) (right : Bool) : List Knot := outK right (fromP p right) (stpL (sideP p right))
def heightP (p : Pan) : Int := riseL (stpL p.2.2.1)
/-! ## errors -/
def wrongW (w : List UInt8) : Bool := w.any fun c => !(c == 78 || c == 66 || c == 84)
def edgE (e : Edg) : Int := firstI [whenI (decide (e.1 = [])) 12, whenI (decide (64 < e.1.length)) 26, whenI (wrongW e.1) 1, withinI e.2.1 1 64]
/-- the first error of edges, and how many letters they have; n: those of the edges before -/
def sideGo : List Edg → Int → Int
  | [], n => whenI (decide (512 < n)) 5
  | e :: r, n => if edgE e = 0 then sideGo r (n + e.1.length * e.2.1) else edgE e
def sideE (l : List Edg) : Int := if 64 < l.length then 5 else sideGo l 0
theorem edgE_zero {e : Edg} (h : edgE e = 0) : e.1 ≠ [] ∧ e.1.length ≤ 64 ∧ wrongW e.1 = false ∧ 1 ≤ e.2.1 ∧ e.2.1 ≤ 64 := by
  unfold edgE at h
  simp only [firstI] at h
  split at h
  · rename_i h1
    split at h
    · rename_i h2
      split at h
      · rename_i h3
        split at h
        · rename_i h4
          unfold whenI at h1 h2 h3
          unfold withinI whenI at h4
          split at h1
          · omega
          · split at h2
            · omega
            · split at h3
              · omega
              · split at h4
                · omega
                · rename_i q1 q2 q3 q4
                  simp only [decide_eq_true_eq, Bool.or_eq_true, not_or, Bool.not_eq_true] at q1 q2 q3 q4
                  exact ⟨q1, by omega, q3, by omega, by omega⟩
        · rename_i h4; exact absurd h h4
      · rename_i h3; exact absurd h h3
    · rename_i h2; exact absurd h h2
  · rename_i h1; exact absurd h h1
theorem sideGo_zero : ∀ (l : List Edg) (n : Int), sideGo l n = 0 → (∀ e ∈ l, edgE e = 0) ∧ n + (stpL l).length ≤ 512
  | [], n, h => by
    unfold sideGo whenI at h
    split at h
    · omega
    · rename_i h2
      refine ⟨fun e he => (by cases he), ?_⟩
      simp [stpL] at h2 ⊢
      omega
  | e :: r, n, h => by
    unfold sideGo at h
    split at h
    · rename_i h1
      obtain ⟨i1, i2⟩ := sideGo_zero r _ h
      obtain ⟨q1, q2, q3, q4, q5⟩ := edgE_zero h1
      refine ⟨fun x hx => ?_, ?_⟩
      · rcases List.mem_cons.1 hx with rfl | hx
        · exact h1
        · exact i1 x hx
      · rw [stpL_cons, List.length_append, edgS_len]
        obtain ⟨t, ht⟩ : ∃ t : Nat, e.2.1 = t := ⟨e.2.1.toNat, by omega⟩
        rw [ht] at i2 ⊢
        rw [Int.toNat_natCast, Nat.mul_comm]
        push_cast at i2 ⊢
        omega
    · rename_i h1; exact absurd h h1
structure SideOk (l : List Edg) : Prop where
  few : l.length ≤ 64
  ok : ∀ e ∈ l, edgE e = 0
  len : (stpL l).length ≤ 512
theorem sideE_zero {l : List Edg} (h : sideE l = 0) : SideOk l := by
  unfold sideE at h
  split at h
  · omega
  · obtain ⟨h1, h2⟩ := sideGo_zero l 0 h
    exact ⟨by omega, h1, by omega⟩
end Go.Proofs.YtmjfkgbbhplhcaaGreatDoor

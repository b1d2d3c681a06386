/- Sets of bars, of the reference; bars mirrored, turned, shifted, walked. Conditions: bars within bounds. -/
import Derived.Test.YtkmjcoofkgpanaaGreatDoorB05
import Derived.Deep.CutRange
namespace Go.Proofs.YtkmjcoofkgpanaaGreatDoor
open Go.RowKit Go.ChangeMaps
set_option maxHeartbeats 4000000
set_option maxRecDepth 100000

/-- the bars of a list that are not in another one -/
def wout (l a : List Bar) : List Bar := l.filter fun b => !hasb a b
theorem wout_take {l : List Bar} {k : Nat} (hk : k < l.length) (a : List Bar) : wout (l.take (k + 1)) a = wout (l.take k) a ++ if hasb a l[k] then [] else [l[k]] := by
  unfold wout
  rw [List.take_succ_eq_append_getElem hk, List.filter_append]
  cases h : hasb a l[k] <;> simp [h]
theorem wout_len (l a : List Bar) : (wout l a).length ≤ l.length := List.length_filter_le _ _

theorem rminus_any {v u : Value} (l a : List Bar) (w : World) (h : SlB w v l) (ha : SlB w u a) (hlen : l.length ≤ 100000) : Calls Tryz.prog 54 #[v, u] w (RB w (wout l a)) := by
  obtain ⟨A, c, rfl, hlc, hcm, h⟩ := h
  go_enter Tryz.func54, Tryz.ntmps54
  go_wp2
  go_loopw [5, 6] (fun o i wr => ∃ k : Nat, k ≤ l.length ∧ i = .int .i64 k ∧ OwB w.heap.size wr o (wout (l.take k) a) ∧ Below w.heap.size w wr) (fun _ i _ => l.length - (intOf i).toNat)
  case atStart => exact ⟨0, Nat.zero_le _, rfl, Own.nil_, by (repeat (first | exact bl_refl | assumption | (apply bl_then; assumption) | refine bl_alloc ?_ _ | refine bl_drew ?_ | refine bl_drewN ?_ _))⟩
  case round =>
    obtain ⟨k, hk, rfl, hown, hbw⟩ := hrel
    have hwl := wout_len (l.take k) a
    have htl : (l.take k).length ≤ 100000 := by simp; omega
    by_cases hlt : k < l.length
    · have hr := h.below hbw
      have har := ha.below hbw
      obtain ⟨b, off, rfl, hb, e0, e1, e2⟩ := hr.bar hlt
      have HD := Lib.hid (wout_take hlt a)
      obtain ⟨g, hg⟩ : ∃ g, hasb a (l[k].1, l[k].2.1, l[k].2.2) = g := ⟨_, rfl⟩
      have hg' : hasb a l[k] = g := hg
      cases g
      · go_wp2_with (first | (go_at_call 72; refine (has_any a _ _ _ _ har).mono ?_; rintro e w1 ⟨rfl, hb1⟩; (first | replace hown := hown.st0 hb1 | replace hown := hown.st1 hb1 | replace hown := hown.std hb1 | replace hown := hown.std1 hb1 | replace hown := hown.st2 hb1 | replace hown := hown.std2 hb1 | replace hown := hown.st3 hb1); (first | replace hr := hr.st0 hb1 | replace hr := hr.st1 hb1 | replace hr := hr.std hb1 | replace hr := hr.std1 hb1 | replace hr := hr.st2 hb1 | replace hr := hr.std2 hb1 | replace hr := hr.st3 hb1); have f2 := hr.barAt hlt) | (at_builtin; refine wpList_appB hown rfl _ _ rfl rfl rfl (by omega) (Below.size (by (repeat (first | exact bl_refl | assumption | (apply bl_then; assumption) | refine bl_alloc ?_ _ | refine bl_drew ?_ | refine bl_drewN ?_ _)))) ?_; intro v2 w2 hown2 hgr2))
        have hbw2 := own_step hown hgr2 (by (repeat (first | exact bl_refl | assumption | (apply bl_then; assumption) | refine bl_alloc ?_ _ | refine bl_drew ?_ | refine bl_drewN ?_ _)))
        clear hgr2
        go_wp2
        go_roundw
        case rel => exact ⟨k + 1, by omega, by go_num, by rw [HD.out, hg']; exact hown2, by (repeat (first | exact bl_refl | assumption | (apply bl_then; assumption) | refine bl_alloc ?_ _ | refine bl_drew ?_ | refine bl_drewN ?_ _))⟩
        case measure => simp [intOf]; omega
      · go_wp2_with (go_at_call 72; refine (has_any a _ _ _ _ har).mono ?_; rintro e w1 ⟨rfl, hb1⟩; (first | replace hown := hown.st0 hb1 | replace hown := hown.st1 hb1 | replace hown := hown.std hb1 | replace hown := hown.std1 hb1 | replace hown := hown.st2 hb1 | replace hown := hown.std2 hb1 | replace hown := hown.st3 hb1))
        go_roundw
        case rel => exact ⟨k + 1, by omega, by go_num, by rw [HD.out, hg']; simpa using hown, by (repeat (first | exact bl_refl | assumption | (apply bl_then; assumption) | refine bl_alloc ?_ _ | refine bl_drew ?_ | refine bl_drewN ?_ _))⟩
        case measure => simp [intOf]; omega
    · have hkl : k = l.length := by omega
      go_wp2
      go_ret
      exact ⟨_, rfl, by rw [hkl, List.take_length] at hown; exact hown, by (repeat (first | exact bl_refl | assumption | (apply bl_then; assumption) | refine bl_alloc ?_ _ | refine bl_drew ?_ | refine bl_drewN ?_ _))⟩
/-- the bars of a list that are in another one -/
def meetL (l a : List Bar) : List Bar := l.filter fun b => hasb a b
theorem meetL_take {l : List Bar} {k : Nat} (hk : k < l.length) (a : List Bar) : meetL (l.take (k + 1)) a = meetL (l.take k) a ++ if hasb a l[k] then [l[k]] else [] := by
  unfold meetL
  rw [List.take_succ_eq_append_getElem hk, List.filter_append]
  cases h : hasb a l[k] <;> simp [h]
theorem meetL_len (l a : List Bar) : (meetL l a).length ≤ l.length := List.length_filter_le _ _

theorem rmeet_any {v u : Value} (l a : List Bar) (w : World) (h : SlB w v l) (ha : SlB w u a) (hlen : l.length ≤ 100000) : Calls Tryz.prog 55 #[v, u] w (RB w (meetL l a)) := by
  obtain ⟨A, c, rfl, hlc, hcm, h⟩ := h
  go_enter Tryz.func55, Tryz.ntmps55
  go_wp2
  go_loopw [5, 6] (fun o i wr => ∃ k : Nat, k ≤ l.length ∧ i = .int .i64 k ∧ OwB w.heap.size wr o (meetL (l.take k) a) ∧ Below w.heap.size w wr) (fun _ i _ => l.length - (intOf i).toNat)
  case atStart => exact ⟨0, Nat.zero_le _, rfl, Own.nil_, by (repeat (first | exact bl_refl | assumption | (apply bl_then; assumption) | refine bl_alloc ?_ _ | refine bl_drew ?_ | refine bl_drewN ?_ _))⟩
  case round =>
    obtain ⟨k, hk, rfl, hown, hbw⟩ := hrel
    have hwl := meetL_len (l.take k) a
    have htl : (l.take k).length ≤ 100000 := by simp; omega
    by_cases hlt : k < l.length
    · have hr := h.below hbw
      have har := ha.below hbw
      obtain ⟨b, off, rfl, hb, e0, e1, e2⟩ := hr.bar hlt
      have HD := Lib.hid (meetL_take hlt a)
      obtain ⟨g, hg⟩ : ∃ g, hasb a (l[k].1, l[k].2.1, l[k].2.2) = g := ⟨_, rfl⟩
      have hg' : hasb a l[k] = g := hg
      cases g
      rotate_left
      · go_wp2_with (first | (go_at_call 72; refine (has_any a _ _ _ _ har).mono ?_; rintro e w1 ⟨rfl, hb1⟩; (first | replace hown := hown.st0 hb1 | replace hown := hown.st1 hb1 | replace hown := hown.std hb1 | replace hown := hown.std1 hb1 | replace hown := hown.st2 hb1 | replace hown := hown.std2 hb1 | replace hown := hown.st3 hb1); (first | replace hr := hr.st0 hb1 | replace hr := hr.st1 hb1 | replace hr := hr.std hb1 | replace hr := hr.std1 hb1 | replace hr := hr.st2 hb1 | replace hr := hr.std2 hb1 | replace hr := hr.st3 hb1); have f2 := hr.barAt hlt) | (at_builtin; refine wpList_appB hown rfl _ _ rfl rfl rfl (by omega) (Below.size (by (repeat (first | exact bl_refl | assumption | (apply bl_then; assumption) | refine bl_alloc ?_ _ | refine bl_drew ?_ | refine bl_drewN ?_ _)))) ?_; intro v2 w2 hown2 hgr2))
        have hbw2 := own_step hown hgr2 (by (repeat (first | exact bl_refl | assumption | (apply bl_then; assumption) | refine bl_alloc ?_ _ | refine bl_drew ?_ | refine bl_drewN ?_ _)))
        clear hgr2
        go_wp2
        go_roundw
        case rel => exact ⟨k + 1, by omega, by go_num, by rw [HD.out, hg']; exact hown2, by (repeat (first | exact bl_refl | assumption | (apply bl_then; assumption) | refine bl_alloc ?_ _ | refine bl_drew ?_ | refine bl_drewN ?_ _))⟩
        case measure => simp [intOf]; omega
      · go_wp2_with (go_at_call 72; refine (has_any a _ _ _ _ har).mono ?_; rintro e w1 ⟨rfl, hb1⟩; (first | replace hown := hown.st0 hb1 | replace hown := hown.st1 hb1 | replace hown := hown.std hb1 | replace hown := hown.std1 hb1 | replace hown := hown.st2 hb1 | replace hown := hown.std2 hb1 | replace hown := hown.st3 hb1))
        go_roundw
        case rel => exact ⟨k + 1, by omega, by go_num, by rw [HD.out, hg']; simpa using hown, by (repeat (first | exact bl_refl | assumption | (apply bl_then; assumption) | refine bl_alloc ?_ _ | refine bl_drew ?_ | refine bl_drewN ?_ _))⟩
        case measure => simp [intOf]; omega
    · have hkl : k = l.length := by omega
      go_wp2
      go_ret
      exact ⟨_, rfl, by rw [hkl, List.take_length] at hown; exact hown, by (repeat (first | exact bl_refl | assumption | (apply bl_then; assumption) | refine bl_alloc ?_ _ | refine bl_drew ?_ | refine bl_drewN ?_ _))⟩
theorem runion_any {v u : Value} (l a : List Bar) (w : World) (h : SlB w v l) (ha : SlB w u a) (hlen : l.length ≤ 10000) (hla : a.length ≤ 10000) : Calls Tryz.prog 53 #[v, u] w (RB w (setB (l ++ a))) := by
  go_enter Tryz.func53, Tryz.ntmps53
  go_wp2_with (first
    | (at_builtin; refine wpList_appBS (Own.empty bc 3 w _) (h.alloc _) rfl _ _ rfl rfl rfl (by simp; omega) (by simp) ?_; intro v2 w2 hown2 hgr2; have hb2 : Below w.heap.size w w2 := bl_grown hgr2 (bl_alloc bl_refl _) fun k hk => by simp [Value.ownBlock] at hk; omega)
    | (at_builtin; refine wpList_appBS hown2 (ha.below hb2) rfl _ _ rfl rfl rfl (by simp; omega) hb2.size ?_; intro v3 w3 hown3 hgr3))
  have hb3 := own_step hown2 hgr3 hb2
  clear hgr3
  simp only [List.nil_append] at hown3
  refine (rsorted_any _ _ (hown3.rd bc_len) (by simp; omega)).mono ?_
  rintro e w4 ⟨v4, rfl, hO4, hb4⟩
  go_wp2
  go_ret
  exact ⟨_, rfl, hO4.base_mono (Below.size hb3), by (repeat (first | exact bl_refl | assumption | (apply bl_then; assumption) | refine bl_alloc ?_ _ | refine bl_drew ?_ | refine bl_drewN ?_ _))⟩
/-- the bar between two knots -/
def btwB (a b : Knot) : Bar := if b.2 < a.2 then (b.1, b.2, a.1 - b.1) else (a.1, a.2, b.1 - a.1)
def nearK (k : Knot) : Prop := (-1000000 ≤ k.1 ∧ k.1 ≤ 1000000) ∧ (-1000000 ≤ k.2 ∧ k.2 ≤ 1000000)
theorem rbtw_any (x y x' y' : Int) (hn : nearK (x, y)) (hn' : nearK (x', y')) (w : World) : Calls Tryz.prog 120 #[.agg #[.int .i64 x, .int .i64 y], .agg #[.int .i64 x', .int .i64 y']] w
    (RV w (.agg #[.int .i64 (btwB (x, y) (x', y')).1, .int .i64 (btwB (x, y) (x', y')).2.1, .int .i64 (btwB (x, y) (x', y')).2.2])) := by
  have hB1 := ((Blk.new w 23 #[.int .i64 x, .int .i64 y]).alloc (.cells #[.int .i64 x', .int .i64 y'] 23)).alloc (.cells #[.int .i64 0, .int .i64 0, .int .i64 0] 60)
  have hB2 := (Blk.new1 w (.cells #[.int .i64 x, .int .i64 y] 23) 23 #[.int .i64 x', .int .i64 y']).alloc (.cells #[.int .i64 0, .int .i64 0, .int .i64 0] 60)
  have hR := Blk.new2 w (.cells #[.int .i64 x, .int .i64 y] 23) (.cells #[.int .i64 x', .int .i64 y'] 23) 60 #[.int .i64 0, .int .i64 0, .int .i64 0]
  have f1 := hB1.facts
  have f2 := hB2.facts
  have fR := hR.facts
  unfold nearK at hn hn'
  simp only at hn hn'
  by_cases hlt : y' < y
  · have hgt : (y' < y) = True := by simp [hlt]
    have hbt : btwB (x, y) (x', y') = (x', y', x - x') := by unfold btwB; rw [if_pos hlt]
    rw [hbt]
    clear hbt
    go_enter Tryz.func120, Tryz.ntmps120
    go_wp2
    refine bodyPost_ret (v := .agg #[.int .i64 x', .int .i64 y', .int .i64 (x - x')]) (by simp [results, Tryz.results120, go_sem]) rfl ?_
    exact ⟨rfl, by (repeat (first | exact bl_refl | assumption | (apply bl_then; assumption) | refine bl_alloc ?_ _ | refine bl_drew ?_ | refine bl_drewN ?_ _))⟩
  · have hgt : (y' < y) = False := by simp [hlt]
    have hbt : btwB (x, y) (x', y') = (x, y, x' - x) := by unfold btwB; rw [if_neg hlt]
    rw [hbt]
    clear hbt
    go_enter Tryz.func120, Tryz.ntmps120
    go_wp2
    refine bodyPost_ret (v := .agg #[.int .i64 x, .int .i64 y, .int .i64 (x' - x)]) (by simp [results, Tryz.results120, go_sem]) rfl ?_
    exact ⟨rfl, by (repeat (first | exact bl_refl | assumption | (apply bl_then; assumption) | refine bl_alloc ?_ _ | refine bl_drew ?_ | refine bl_drewN ?_ _))⟩
/-- the mirrored bar -/
def mirB (b : Bar) : Bar := (-b.1, b.2.1, -b.2.2)
theorem map_take {α β : Type} (f : α → β) {l : List α} {k : Nat} (hk : k < l.length) : (l.take (k + 1)).map f = (l.take k).map f ++ [f l[k]] := by
  rw [List.take_succ_eq_append_getElem hk, List.map_append]; rfl
theorem rmirror_any {v : Value} (l : List Bar) (w : World) (h : SlB w v l) (hk : ∀ b ∈ l, BarOk b) (hlen : l.length ≤ 10000) : Calls Tryz.prog 61 #[v] w (RB w (setB (l.map mirB))) := by
  obtain ⟨A, c, rfl, hlc, hcm, h⟩ := h
  have HK := Lib.hid hk
  clear hk
  go_enter Tryz.func61, Tryz.ntmps61
  go_wp2
  go_loopw [3, 4] (fun o i wr => ∃ k : Nat, k ≤ l.length ∧ i = .int .i64 k ∧ OwB w.heap.size wr o ((l.take k).map mirB) ∧ Below w.heap.size w wr) (fun _ i _ => l.length - (intOf i).toNat)
  case atStart => exact ⟨0, Nat.zero_le _, rfl, Own.nil_, by (repeat (first | exact bl_refl | assumption | (apply bl_then; assumption) | refine bl_alloc ?_ _ | refine bl_drew ?_ | refine bl_drewN ?_ _))⟩
  case round =>
    obtain ⟨k, hk, rfl, hO, hbw⟩ := hrel
    obtain ⟨wo, rfl⟩ : ∃ x, x = wr := ⟨_, rfl⟩
    by_cases hlt : k < l.length
    · have hr := h.below hbw
      obtain ⟨b, off, rfl, hb, e0, e1, e2⟩ := hr.bar hlt
      have HD := Lib.hid (map_take mirB hlt)
      have hbo := HK.out _ (List.getElem_mem hlt)
      obtain ⟨⟨x, y, s⟩, hx⟩ : ∃ z, l[k] = z := ⟨_, rfl⟩
      rw [hx] at e0 e1 e2 hbo HD
      simp only at e0 e1 e2
      clear hx
      obtain ⟨q1, q2, q3⟩ := hbo
      simp only at q1 q2 q3
      have m1 : IntKind.i64.wrap (0 - x) = -x := by rw [IntWalk.i64_in _ (by omega)]; omega
      have m2 : IntKind.i64.wrap (0 - s) = -s := by rw [IntWalk.i64_in _ (by omega)]; omega
      have m3 : IntKind.i64.wrap (-x) = -x := by rw [IntWalk.i64_in _ (by omega)]
      have m4 : IntKind.i64.wrap (-s) = -s := by rw [IntWalk.i64_in _ (by omega)]
      have hll : ((l.take k).map mirB).length ≤ 10000 := by simp; omega
      go_wp2
      refine wp_region_ords [0, 1, 2, 3, 4, 5, 6, 7, 8, 9, 10, 11, 12, 13, 14, 15, 16, 17, 18] [(19, false)] [20, 21] (by kernel_rfl) (by kernel_rfl) (fun d _ _ _ _ h => by cases d <;> exact h) ?_
      simp only [List.map_cons, List.map_nil, List.getD_cons_zero, List.getD_cons_succ]
      repeat (go_big_quiet_step (fail))
      refine wpQuiet_nil ?_
      refine wpMid_run rfl (fun K hK => ?_)
      go_simp
      refine hK _ _ (by (repeat (first | exact bl_refl | assumption | (apply bl_then; assumption) | refine bl_alloc ?_ _ | refine bl_drew ?_ | refine bl_drewN ?_ _))) ?_
      clear hK K
      refine wpMid_nil ?_
      have hO2 := hO.drew
      go_wp2_with (at_builtin; refine wpList_appB1 hO2 rfl _ _ rfl rfl rfl (by simp) (by omega) (Below.size (show Below w.heap.size w wo.drew by (repeat (first | exact bl_refl | assumption | (apply bl_then; assumption) | refine bl_alloc ?_ _ | refine bl_drew ?_ | refine bl_drewN ?_ _)))) ?_; intro v3 w3 hown3 hgr3)
      have hb3 := own_step hO2 hgr3 (by (repeat (first | exact bl_refl | assumption | (apply bl_then; assumption) | refine bl_alloc ?_ _ | refine bl_drew ?_ | refine bl_drewN ?_ _)))
      clear hgr3
      go_wp2
      go_roundw
      case rel => exact ⟨k + 1, by omega, by go_num, by rw [HD.out]; exact hown3, hb3⟩
      case measure => simp [intOf]; omega
    · have HE : Hid (l.map mirB = (l.take k).map mirB) := by unfold Hid; rw [List.take_of_length_le (by omega)]
      have hO3 : OwB w.heap.size wo _ (l.map mirB) := HE.out ▸ hO
      go_wp2_with fail
      refine (rsorted_any _ _ (hO3.rd bc_len) (by simp; omega)).mono ?_
      rintro e w4 ⟨v4, rfl, hO4, hb4⟩
      go_wp2
      go_ret
      exact ⟨_, rfl, hO4.base_mono (Below.size hbw), by (repeat (first | exact bl_refl | assumption | (apply bl_then; assumption) | refine bl_alloc ?_ _ | refine bl_drew ?_ | refine bl_drewN ?_ _))⟩
end Go.Proofs.YtkmjcoofkgpanaaGreatDoor

/- Bars turned, of the reference, walked. Conditions: bars within bounds. -/
namespace Go.Proofs.YtkmjcoofkgpanaaGreatDoor
open Go.RowKit Go.ChangeMaps
set_option maxHeartbeats 4000000
set_option maxRecDepth 100000

/-- the bar turned by a quarter -/
def turnB (b : Bar) : Bar := btwB (-b.2.1, b.1) (-(b.2.1 + 1), b.1 + b.2.2)
def turF (x y x1 y1 : Int) (n₀ : Nat) (i : Nat) (v : Value) (W : World) : Prop :=
  (i = 4 → v = .agg #[.int .i64 x, .int .i64 y]) ∧ (i = 9 → v = .agg #[.int .i64 x1, .int .i64 y1]) ∧
  ((i = 10 ∨ i = 11) → ∃ g, v = .pointer (some ⟨g, 0, none⟩) ∧ n₀ ≤ g ∧ Blk W g 23 #[.int .i64 0, .int .i64 0])
theorem turF_st (x y x1 y1 : Int) (n₀ : Nat) : ∀ i v W W', turF x y x1 y1 n₀ i v W → Below W.heap.size W W' → turF x y x1 y1 n₀ i v W' := fun i v W W' h hb =>
  ⟨h.1, h.2.1, fun hi => by obtain ⟨g, h1, h0, h2⟩ := h.2.2 hi; exact ⟨g, h1, h0, h2.below hb⟩⟩
theorem rturned_any {v : Value} (l : List Bar) (w : World) (h : SlB w v l) (hk : ∀ b ∈ l, BarOk b) (hlen : l.length ≤ 10000) : Calls Tryz.prog 60 #[v] w (RB w (setB (l.map turnB))) := by
  obtain ⟨A, c, rfl, hlc, hcm, h⟩ := h
  have HK := Lib.hid hk
  clear hk
  go_enter Tryz.func60, Tryz.ntmps60
  go_wp2
  go_loopw [3, 4] (fun o i wr => ∃ k : Nat, k ≤ l.length ∧ i = .int .i64 k ∧ OwB w.heap.size wr o ((l.take k).map turnB) ∧ Below w.heap.size w wr) (fun _ i _ => l.length - (intOf i).toNat)
  case atStart => exact ⟨0, Nat.zero_le _, rfl, Own.nil_, by (repeat (first | exact bl_refl | assumption | (apply bl_then; assumption) | refine bl_alloc ?_ _ | refine bl_drew ?_ | refine bl_drewN ?_ _))⟩
  case round =>
    obtain ⟨k, hk, rfl, hO, hbw⟩ := hrel
    obtain ⟨wo, rfl⟩ : ∃ x, x = wr := ⟨_, rfl⟩
    by_cases hlt : k < l.length
    · have hr := h.below hbw
      obtain ⟨b, off, rfl, hb, e0, e1, e2⟩ := hr.bar hlt
      have hbo := HK.out _ (List.getElem_mem hlt)
      have HD := Lib.hid (map_take turnB hlt)
      obtain ⟨⟨x, y, s⟩, hx⟩ : ∃ z, l[k] = z := ⟨_, rfl⟩
      rw [hx] at e0 e1 e2 hbo HD
      simp only at e0 e1 e2
      clear hx
      obtain ⟨q1, q2, q3⟩ := hbo
      simp only at q1 q2 q3
      have hll : ((l.take k).map turnB).length ≤ 10000 := by simp; omega
      obtain ⟨x1, hx1⟩ : ∃ x1, x + s = x1 := ⟨_, rfl⟩
      obtain ⟨y1, hy1⟩ : ∃ y1, y + 1 = y1 := ⟨_, rfl⟩
      have n1 : nearK (-y, x) := by unfold nearK; simp only; omega
      have n2 : nearK (-y1, x1) := by unfold nearK; simp only; omega
      have HT : Hid (turnB (x, y, s) = btwB (-y, x) (-y1, x1)) := by unfold Hid turnB; rw [hx1, hy1]
      have m1 : IntKind.i64.wrap (0 - y) = -y := by rw [IntWalk.i64_in _ (by omega)]; omega
      have m2 : IntKind.i64.wrap (0 - y1) = -y1 := by rw [IntWalk.i64_in _ (by omega)]; omega
      have m3 : IntKind.i64.wrap (-y) = -y := by rw [IntWalk.i64_in _ (by omega)]
      have m4 : IntKind.i64.wrap (-y1) = -y1 := by rw [IntWalk.i64_in _ (by omega)]
      have HX := Lib.hid hx1
      have HY := Lib.hid hy1
      clear hx1 hy1
      go_wp2
      refine wp_region_facts (turF x y x1 y1 wo.heap.size) [0, 1, 2, 3, 5, 6, 7, 8] [10, 11] [4, 9, 10, 11] [12, 13] (by decide) (by kernel_rfl) (by kernel_rfl) (fun d _ _ _ _ h => by cases d <;> exact h) (turF_st x y x1 y1 wo.heap.size) ?_
      simp only [List.map_cons, List.map_nil, List.getD_cons_zero, List.getD_cons_succ]
      repeat (go_big_quiet_step (fail))
      refine wpQuiet_nil ⟨List.forall_mem_cons.2 ⟨?_, List.forall_mem_cons.2 ⟨?_, List.forall_mem_cons.2 ⟨?_, List.forall_mem_cons.2 ⟨?_, List.forall_mem_nil _⟩⟩⟩⟩, ?_⟩
      · intro vals W hbW hF
        refine facts_step (fun K hK => ?_)
        simp only [putAll, Array.getD_eq_getD_getElem?, List.getElem?_toArray, List.getElem?_cons_succ, List.getElem?_cons_zero, Option.getD_some, List.getD_cons_succ, List.getD_cons_zero, Act.put, List.setIfInBounds_toArray, List.set_cons_zero, List.set_cons_succ]
        go_simp
        refine (rlower_any _ _ _ _).mono ?_
        rintro e w1 ⟨rfl, hb1⟩
        exact hK _ _ _ rfl hb1 ⟨fun _ => rfl, fun h => by simp at h, fun h => by simp at h⟩ (fun h => by simp at h)
      · intro vals W hbW hF
        refine facts_step (fun K hK => ?_)
        simp only [putAll, Array.getD_eq_getD_getElem?, List.getElem?_toArray, List.getElem?_cons_succ, List.getElem?_cons_zero, Option.getD_some, List.getD_cons_succ, List.getD_cons_zero, Act.put, List.setIfInBounds_toArray, List.set_cons_zero, List.set_cons_succ]
        go_simp
        refine (rupper_any _ _ _ (by omega) (by omega) (by omega) _).mono ?_
        rintro e w1 ⟨rfl, hb1⟩
        exact hK _ _ _ rfl hb1 ⟨fun h => by simp at h, fun _ => by rw [HX.out, HY.out], fun h => by simp at h⟩ (fun h => by simp at h)
      · intro vals W hbW hF
        refine facts_step (fun K hK => ?_)
        simp only [putAll, Array.getD_eq_getD_getElem?, List.getElem?_toArray, List.getElem?_cons_succ, List.getElem?_cons_zero, Option.getD_some, List.getD_cons_succ, List.getD_cons_zero, Act.put, List.setIfInBounds_toArray, List.set_cons_zero, List.set_cons_succ]
        go_simp
        exact hK _ _ _ rfl (bl_alloc bl_refl _) ⟨fun h => by simp at h, fun h => by simp at h, fun _ => ⟨_, rfl, hbW.size, Blk.new _ _ _⟩⟩ (fun _ => ⟨_, rfl, Nat.le_refl _, by simp⟩)
      · intro vals W hbW hF
        refine facts_step (fun K hK => ?_)
        simp only [putAll, Array.getD_eq_getD_getElem?, List.getElem?_toArray, List.getElem?_cons_succ, List.getElem?_cons_zero, Option.getD_some, List.getD_cons_succ, List.getD_cons_zero, Act.put, List.setIfInBounds_toArray, List.set_cons_zero, List.set_cons_succ]
        go_simp
        exact hK _ _ _ rfl (bl_alloc bl_refl _) ⟨fun h => by simp at h, fun h => by simp at h, fun _ => ⟨_, rfl, hbW.size, Blk.new _ _ _⟩⟩ (fun _ => ⟨_, rfl, Nat.le_refl _, by simp⟩)
      · intro vals W hbW hF hAp
        simp only [putAll, Array.getD_eq_getD_getElem?, List.getElem?_toArray, List.getElem?_cons_succ, List.getElem?_cons_zero, Option.getD_some, Act.put, List.setIfInBounds_toArray, List.set_cons_zero, List.set_cons_succ]
        have h1 := (hF 4 (by simp)).1 rfl
        have h3 := (hF 9 (by simp)).2.1 rfl
        obtain ⟨g4, e4, hg4, hB4⟩ := (hF 10 (by simp)).2.2 (.inl rfl)
        obtain ⟨g5, e5, hg5, hB5⟩ := (hF 11 (by simp)).2.2 (.inr rfl)
        have hne := hAp.2 10 (by simp) 11 (by simp) (by simp)
        simp only [h1, h3, e4, e5] at hne ⊢
        have hne' : ¬ g4 = g5 ∧ ¬ g5 = g4 := ⟨fun e => hne (by rw [e]), fun e => hne (by rw [e])⟩
        clear hF hAp h1 h3 e4 e5 hne
        refine wpList_store_blk hB4 rfl _ _ _ rfl rfl rfl (by rfl) (by kernel_rfl) (by kernel_rfl) fun w2 hB4 hc2 => ?_
        refine wpList_store_blk (hB5.chg hc2 (by simp [hne'])) rfl _ _ _ rfl rfl rfl (by rfl) (by kernel_rfl) (by kernel_rfl) fun w3 hB5 hc3 => ?_
        replace hB4 := hB4.chg hc3 (by simp [hne'])
        have f4 := hB4.facts
        have f5 := hB5.facts
        have hc := ((Chg.of_below hbW).trans (hc2.mono (S' := [g4, g5]) (by simp))).trans (hc3.mono (S' := [g4, g5]) (by simp))
        have hb3 : Below wo.heap.size wo w3 := hc.below (by simp; omega) (Nat.le_refl _)
        have hO3 := hO.below hb3
        have hbw3 : Below w.heap.size w w3 := bl_then hb3 hbw
        clear hc hc2 hc3 hO e0 e1 e2
        go_wp2_with fail
        refine (rbtw_any _ _ _ _ n1 n2 _).mono ?_
        rintro e w5 ⟨rfl, hb5⟩
        have hO5 := hO3.below hb5
        have hbw5 : Below w.heap.size w w5 := bl_then hb5 hbw3
        obtain ⟨⟨tx, ty, ts⟩, htb⟩ : ∃ z, btwB (-y, x) (-y1, x1) = z := ⟨_, rfl⟩
        have HTB := Lib.hid htb
        rw [htb]
        clear htb
        go_wp2_with (at_builtin; refine wpList_appB1 hO5 rfl _ _ rfl rfl rfl (by simp) (by omega) hbw5.size ?_; intro v6 w6 hown6 hgr6)
        have hb6 := own_step hO5 hgr6 (by (repeat (first | exact bl_refl | assumption | (apply bl_then; assumption) | refine bl_alloc ?_ _ | refine bl_drew ?_ | refine bl_drewN ?_ _)))
        clear hgr6
        go_wp2
        go_roundw
        case rel => exact ⟨k + 1, by omega, by go_num, by rw [HD.out, HT.out, HTB.out]; exact hown6, hb6⟩
        case measure => simp [intOf]; omega
    · have HE : Hid (l.map turnB = (l.take k).map turnB) := by unfold Hid; rw [List.take_of_length_le (by omega)]
      have hO3 : OwB w.heap.size wo _ (l.map turnB) := HE.out ▸ hO
      go_wp2_with fail
      refine (rsorted_any _ _ (hO3.rd bc_len) (by simp; omega)).mono ?_
      rintro e w4 ⟨v4, rfl, hO4, hb4⟩
      go_wp2
      go_ret
      exact ⟨_, rfl, hO4.base_mono (Below.size hbw), by (repeat (first | exact bl_refl | assumption | (apply bl_then; assumption) | refine bl_alloc ?_ _ | refine bl_drew ?_ | refine bl_drewN ?_ _))⟩
/-- a bar shifted -/
def shB (d : Knot) (b : Bar) : Bar := (b.1 + d.1, b.2.1 + d.2, b.2.2)
/-- both ends of a bar are in their range -/
def inB (b : Bar) : Bool := !farB b.1 && !farB b.2.1 && !farB (b.1 + b.2.2) && !farB (b.2.1 + 1)
def allIn (l : List Bar) : Bool := l.all inB
theorem allIn_take {l : List Bar} {f : Bar → Bar} {k : Nat} (hk : k < l.length) : allIn ((l.take (k + 1)).map f) = (allIn ((l.take k).map f) && inB (f l[k])) := by
  rw [map_take f hk]; unfold allIn; rw [List.all_append]; simp
end Go.Proofs.YtkmjcoofkgpanaaGreatDoor

/- Bars shifted, of the reference, walked. Conditions: bars within bounds. -/
namespace Go.Proofs.YtkmjcoofkgpanaaGreatDoor
open Go.RowKit Go.ChangeMaps
set_option maxHeartbeats 4000000
set_option maxRecDepth 100000

/-- a row of bars of the call's own and a truth value -/
def RBB (w : World) (l : List Bar) (b : Bool) (e : Ending) (w' : World) : Prop := ∃ v, e = .returned (.tuple #[v, .bool b]) ∧ OwB w.heap.size w' v l ∧ Below w.heap.size w w'
theorem allIn_nil : allIn [] = true := rfl
theorem rshifted_any {v : Value} (l : List Bar) (dx dy : Int) (w : World) (h : SlB w v l) (hk : ∀ b ∈ l, BarOk b) (hlen : l.length ≤ 10000) (hdx : -500000 ≤ dx ∧ dx ≤ 500000) (hdy : -500000 ≤ dy ∧ dy ≤ 500000) :
    Calls Tryz.prog 59 #[v, .agg #[.int .i64 dx, .int .i64 dy]] w (RBB w (l.map (shB (dx, dy))) (allIn (l.map (shB (dx, dy))))) := by
  obtain ⟨A, c, rfl, hlc, hcm, h⟩ := h
  have HK := Lib.hid hk
  have hB := Blk.new w 23 #[.int .i64 dx, .int .i64 dy]
  clear hk
  go_enter Tryz.func59, Tryz.ntmps59
  go_wp2
  go_loopw [6, 7, 8] (fun o q i wr => ∃ k : Nat, k ≤ l.length ∧ i = .int .i64 k ∧ q = .bool (allIn ((l.take k).map (shB (dx, dy)))) ∧ OwB w.heap.size wr o ((l.take k).map (shB (dx, dy))) ∧ Blk wr w.heap.size 23 #[.int .i64 dx, .int .i64 dy] ∧ Below w.heap.size w wr) (fun _ _ i _ => l.length - (intOf i).toNat)
  case atStart => exact ⟨0, Nat.zero_le _, rfl, rfl, Own.nil_, hB, by (repeat (first | exact bl_refl | assumption | (apply bl_then; assumption) | refine bl_alloc ?_ _ | refine bl_drew ?_ | refine bl_drewN ?_ _))⟩
  case round =>
    clear hB
    obtain ⟨k, hk, rfl, rfl, hO, hBr, hbw⟩ := hrel
    obtain ⟨wo, rfl⟩ : ∃ x, x = wr := ⟨_, rfl⟩
    by_cases hlt : k < l.length
    · have hr := h.below hbw
      obtain ⟨b, off, rfl, hb, e0, e1, e2⟩ := hr.bar hlt
      have hbo := HK.out _ (List.getElem_mem hlt)
      have HD := Lib.hid (map_take (shB (dx, dy)) hlt)
      have HA := Lib.hid (allIn_take (f := shB (dx, dy)) hlt)
      have fB := hBr.facts
      obtain ⟨⟨x, y, s⟩, hx⟩ : ∃ z, l[k] = z := ⟨_, rfl⟩
      rw [hx] at e0 e1 e2 hbo HD HA
      simp only at e0 e1 e2
      clear hx
      obtain ⟨q1, q2, q3⟩ := hbo
      simp only at q1 q2 q3
      have hll : ((l.take k).map (shB (dx, dy))).length ≤ 10000 := by simp; omega
      obtain ⟨x1, hx1⟩ : ∃ x1, x + dx = x1 := ⟨_, rfl⟩
      obtain ⟨y1, hy1⟩ : ∃ y1, y + dy = y1 := ⟨_, rfl⟩
      have m1 : IntKind.i64.wrap (x + dx) = x1 := by rw [IntWalk.i64_in _ (by omega)]; omega
      have m2 : IntKind.i64.wrap (y + dy) = y1 := by rw [IntWalk.i64_in _ (by omega)]; omega
      have r1 : -1000000 ≤ x1 ∧ x1 ≤ 1000000 := by omega
      have r2 : -1000000 ≤ y1 ∧ y1 ≤ 1000000 := by omega
      have HS : Hid (shB (dx, dy) (x, y, s) = (x1, y1, s)) := by unfold Hid shB; rw [← hx1, ← hy1]
      clear hx1 hy1
      rw [HS.out] at HD HA
      obtain ⟨qa, hqa⟩ : ∃ qa, allIn ((l.take k).map (shB (dx, dy))) = qa := ⟨_, rfl⟩
      rw [hqa]
      have HQ := Lib.hid hqa
      clear hqa
      go_wp2
      refine wp_region_ords [0, 1, 2, 3, 4, 5, 6, 7, 8, 9, 10, 11, 12, 13, 14, 15, 16, 17, 18, 19, 20, 21] [(22, false)] [23] (by kernel_rfl) (by kernel_rfl) (fun d _ _ _ _ h => by cases d <;> exact h) ?_
      simp only [List.map_cons, List.map_nil, List.getD_cons_zero, List.getD_cons_succ]
      repeat (go_big_quiet_step (fail))
      refine wpQuiet_nil ?_
      refine wpMid_run rfl (fun K hK => ?_)
      go_simp
      refine hK _ _ (by (repeat (first | exact bl_refl | assumption | (apply bl_then; assumption) | refine bl_alloc ?_ _ | refine bl_drew ?_ | refine bl_drewN ?_ _))) ?_
      clear hK K
      refine wpMid_nil ?_
      go_upto_region 7 with fail
      have hBN := (Blk.new wo 60 #[.int .i64 x1, .int .i64 y1, .int .i64 s]).drew
      have hBn := (hBr.alloc (.cells #[.int .i64 x1, .int .i64 y1, .int .i64 s] 60)).drew
      have hOn := (hO.alloc (.cells #[.int .i64 x1, .int .i64 y1, .int .i64 s] 60)).drew
      have hbn : Below w.heap.size w ((wo.alloc (.cells #[.int .i64 x1, .int .i64 y1, .int .i64 s] 60)).drew) := by (repeat (first | exact bl_refl | assumption | (apply bl_then; assumption) | refine bl_alloc ?_ _ | refine bl_drew ?_ | refine bl_drewN ?_ _))
      have fBN := hBN.facts
      clear fB hO hBr
      go_cut [7] from 10 to 70 (fun s7 wx => s7 = .bool (qa && inB (x1, y1, s)) ∧ Below ((wo.alloc (.cells #[.int .i64 x1, .int .i64 y1, .int .i64 s] 60)).drew).heap.size ((wo.alloc (.cells #[.int .i64 x1, .int .i64 y1, .int .i64 s] 60)).drew) wx)
      case first =>
        have HI : Hid (inB (x1, y1, s) = (!farB x1 && !farB y1 && !farB (x1 + s) && !farB (y1 + 1))) := rfl
        obtain ⟨f1, h1⟩ : ∃ f, farB x1 = f := ⟨_, rfl⟩
        obtain ⟨f2, h2⟩ : ∃ f, farB y1 = f := ⟨_, rfl⟩
        obtain ⟨f3, h3⟩ : ∃ f, farB (x1 + s) = f := ⟨_, rfl⟩
        obtain ⟨f4, h4⟩ : ∃ f, farB (y1 + 1) = f := ⟨_, rfl⟩
        have c1 := fun W => far_any x1 W
        have c2 := fun W => far_any y1 W
        have c3 := fun W => far_any (x1 + s) W
        have c4 := fun W => far_any (y1 + 1) W
        simp only [h1, h2, h3, h4] at c1 c2 c3 c4
        rw [h1, h2, h3, h4] at HI
        clear h1 h2 h3 h4
        cases qa
        · as_aux_lemma =>
            go_wp2_with fail
            go_meet
            case rel => exact ⟨by rw [HI.out]; rfl, by (repeat (first | exact bl_refl | assumption | (apply bl_then; assumption) | refine bl_alloc ?_ _ | refine bl_drew ?_ | refine bl_drewN ?_ _))⟩
        · cases f1
          rotate_left
          · as_aux_lemma =>
              go_wp2_with fail
              refine (c1 _).mono ?_
              rintro e w6 ⟨rfl, hb6⟩
              replace hBN := hBN.below (show Below _ _ w6 by (repeat (first | exact bl_refl | assumption | (apply bl_then; assumption) | refine bl_alloc ?_ _ | refine bl_drew ?_ | refine bl_drewN ?_ _)))
              replace fhBN := hBN.facts
              go_wp2_with fail
              go_meet
              case rel => exact ⟨by rw [HI.out]; rfl, by (repeat (first | exact bl_refl | assumption | (apply bl_then; assumption) | refine bl_alloc ?_ _ | refine bl_drew ?_ | refine bl_drewN ?_ _))⟩
          · cases f2
            rotate_left
            · as_aux_lemma =>
                go_wp2_with fail
                refine (c1 _).mono ?_
                rintro e w6 ⟨rfl, hb6⟩
                replace hBN := hBN.below (show Below _ _ w6 by (repeat (first | exact bl_refl | assumption | (apply bl_then; assumption) | refine bl_alloc ?_ _ | refine bl_drew ?_ | refine bl_drewN ?_ _)))
                replace fhBN := hBN.facts
                go_wp2_with fail
                refine (c2 _).mono ?_
                rintro e w7 ⟨rfl, hb7⟩
                replace hBN := hBN.below (show Below _ _ w7 by (repeat (first | exact bl_refl | assumption | (apply bl_then; assumption) | refine bl_alloc ?_ _ | refine bl_drew ?_ | refine bl_drewN ?_ _)))
                replace fhBN := hBN.facts
                go_wp2_with fail
                go_meet
                case rel => exact ⟨by rw [HI.out]; rfl, by (repeat (first | exact bl_refl | assumption | (apply bl_then; assumption) | refine bl_alloc ?_ _ | refine bl_drew ?_ | refine bl_drewN ?_ _))⟩
            · cases f3
              rotate_left
              · as_aux_lemma =>
                  go_wp2_with fail
                  refine (c1 _).mono ?_
                  rintro e w6 ⟨rfl, hb6⟩
                  replace hBN := hBN.below (show Below _ _ w6 by (repeat (first | exact bl_refl | assumption | (apply bl_then; assumption) | refine bl_alloc ?_ _ | refine bl_drew ?_ | refine bl_drewN ?_ _)))
                  replace fhBN := hBN.facts
                  go_wp2_with fail
                  refine (c2 _).mono ?_
                  rintro e w7 ⟨rfl, hb7⟩
                  replace hBN := hBN.below (show Below _ _ w7 by (repeat (first | exact bl_refl | assumption | (apply bl_then; assumption) | refine bl_alloc ?_ _ | refine bl_drew ?_ | refine bl_drewN ?_ _)))
                  replace fhBN := hBN.facts
                  go_wp2_with fail
                  refine (c3 _).mono ?_
                  rintro e w8 ⟨rfl, hb8⟩
                  replace hBN := hBN.below (show Below _ _ w8 by (repeat (first | exact bl_refl | assumption | (apply bl_then; assumption) | refine bl_alloc ?_ _ | refine bl_drew ?_ | refine bl_drewN ?_ _)))
                  replace fhBN := hBN.facts
                  go_wp2_with fail
                  go_meet
                  case rel => exact ⟨by rw [HI.out]; rfl, by (repeat (first | exact bl_refl | assumption | (apply bl_then; assumption) | refine bl_alloc ?_ _ | refine bl_drew ?_ | refine bl_drewN ?_ _))⟩
              · cases f4
                · as_aux_lemma =>
                    go_wp2_with fail
                    refine (c1 _).mono ?_
                    rintro e w6 ⟨rfl, hb6⟩
                    replace hBN := hBN.below (show Below _ _ w6 by (repeat (first | exact bl_refl | assumption | (apply bl_then; assumption) | refine bl_alloc ?_ _ | refine bl_drew ?_ | refine bl_drewN ?_ _)))
                    replace fhBN := hBN.facts
                    go_wp2_with fail
                    refine (c2 _).mono ?_
                    rintro e w7 ⟨rfl, hb7⟩
                    replace hBN := hBN.below (show Below _ _ w7 by (repeat (first | exact bl_refl | assumption | (apply bl_then; assumption) | refine bl_alloc ?_ _ | refine bl_drew ?_ | refine bl_drewN ?_ _)))
                    replace fhBN := hBN.facts
                    go_wp2_with fail
                    refine (c3 _).mono ?_
                    rintro e w8 ⟨rfl, hb8⟩
                    replace hBN := hBN.below (show Below _ _ w8 by (repeat (first | exact bl_refl | assumption | (apply bl_then; assumption) | refine bl_alloc ?_ _ | refine bl_drew ?_ | refine bl_drewN ?_ _)))
                    replace fhBN := hBN.facts
                    go_wp2_with fail
                    refine (c4 _).mono ?_
                    rintro e w9 ⟨rfl, hb9⟩
                    replace hBN := hBN.below (show Below _ _ w9 by (repeat (first | exact bl_refl | assumption | (apply bl_then; assumption) | refine bl_alloc ?_ _ | refine bl_drew ?_ | refine bl_drewN ?_ _)))
                    replace fhBN := hBN.facts
                    go_wp2_with fail
                    go_meet
                    case rel => exact ⟨by rw [HI.out]; rfl, by (repeat (first | exact bl_refl | assumption | (apply bl_then; assumption) | refine bl_alloc ?_ _ | refine bl_drew ?_ | refine bl_drewN ?_ _))⟩
                · as_aux_lemma =>
                    go_wp2_with fail
                    refine (c1 _).mono ?_
                    rintro e w6 ⟨rfl, hb6⟩
                    replace hBN := hBN.below (show Below _ _ w6 by (repeat (first | exact bl_refl | assumption | (apply bl_then; assumption) | refine bl_alloc ?_ _ | refine bl_drew ?_ | refine bl_drewN ?_ _)))
                    replace fhBN := hBN.facts
                    go_wp2_with fail
                    refine (c2 _).mono ?_
                    rintro e w7 ⟨rfl, hb7⟩
                    replace hBN := hBN.below (show Below _ _ w7 by (repeat (first | exact bl_refl | assumption | (apply bl_then; assumption) | refine bl_alloc ?_ _ | refine bl_drew ?_ | refine bl_drewN ?_ _)))
                    replace fhBN := hBN.facts
                    go_wp2_with fail
                    refine (c3 _).mono ?_
                    rintro e w8 ⟨rfl, hb8⟩
                    replace hBN := hBN.below (show Below _ _ w8 by (repeat (first | exact bl_refl | assumption | (apply bl_then; assumption) | refine bl_alloc ?_ _ | refine bl_drew ?_ | refine bl_drewN ?_ _)))
                    replace fhBN := hBN.facts
                    go_wp2_with fail
                    refine (c4 _).mono ?_
                    rintro e w9 ⟨rfl, hb9⟩
                    replace hBN := hBN.below (show Below _ _ w9 by (repeat (first | exact bl_refl | assumption | (apply bl_then; assumption) | refine bl_alloc ?_ _ | refine bl_drew ?_ | refine bl_drewN ?_ _)))
                    replace fhBN := hBN.facts
                    go_wp2_with fail
                    go_meet
                    case rel => exact ⟨by rw [HI.out]; rfl, by (repeat (first | exact bl_refl | assumption | (apply bl_then; assumption) | refine bl_alloc ?_ _ | refine bl_drew ?_ | refine bl_drewN ?_ _))⟩
      case rest =>
        as_aux_lemma =>
          obtain ⟨rfl, hbc⟩ := hcut
          obtain ⟨w5, rfl⟩ : ∃ x, x = wc := ⟨_, rfl⟩
          have hBN5 := hBN.below hbc
          have fBN5 := hBN5.facts
          have hBn5 := hBn.below hbc
          have hO5 := hOn.below hbc
          have hbw5 : Below w.heap.size w w5 := by (repeat (first | exact bl_refl | assumption | (apply bl_then; assumption) | refine bl_alloc ?_ _ | refine bl_drew ?_ | refine bl_drewN ?_ _))
          clear fBN hBN hBn hOn
          go_wp2_with (at_builtin; refine wpList_appB1 hO5 rfl _ _ rfl rfl rfl (by simp) (by omega) hbw5.size ?_; intro v6 w6 hown6 hgr6)
          have hb6 := own_step hO5 hgr6 (by (repeat (first | exact bl_refl | assumption | (apply bl_then; assumption) | refine bl_alloc ?_ _ | refine bl_drew ?_ | refine bl_drewN ?_ _)))
          have hBn6 := (hBn5.alloc (.cells #[.int .i64 x1, .int .i64 y1, .int .i64 s] 60)).grown hgr6 (hO5.ne_blk hBn5 (by decide))
          clear hgr6
          go_wp2
          go_roundw
          case rel => exact ⟨k + 1, by omega, by go_num, by rw [HA.out, HQ.out], by rw [HD.out]; exact hown6, hBn6, hb6⟩
          case measure => simp [intOf]; omega
    · have HE : Hid (l.map (shB (dx, dy)) = (l.take k).map (shB (dx, dy))) := by unfold Hid; rw [List.take_of_length_le (by omega)]
      go_wp2
      refine bodyPost_ret (v := .tuple #[_, .bool (allIn (l.map (shB (dx, dy))))]) (by rw [HE.out]; simp [results, Tryz.results59, go_sem]; rfl) rfl ?_
      exact ⟨_, rfl, by rw [HE.out]; exact hO, hbw⟩
end Go.Proofs.YtkmjcoofkgpanaaGreatDoor

/- The knots of a net, of the reference, walked. Conditions: bars within bounds. -/
namespace Go.Proofs.YtkmjcoofkgpanaaGreatDoor
open Go.RowKit Go.ChangeMaps
set_option maxHeartbeats 4000000
set_option maxRecDepth 100000

def endK (b : Bar) : Nat → Knot
  | 0 => lowK b
  | _ => uppK b
/-- the ends of the bars, one by one -/
def endsL (l : List Bar) : List Knot := l.flatMap fun b => [lowK b, uppK b]
theorem endsL_len (l : List Bar) : (endsL l).length = 2 * l.length := by
  induction l with
  | nil => rfl
  | cons b r ih => simp only [endsL, List.flatMap_cons, List.length_append, List.length_cons, List.length_nil] at ih ⊢; omega
theorem endsL_get : ∀ (l : List Bar) (i : Nat) (b : Bar), l[i / 2]? = some b → (endsL l)[i]? = some (endK b (i % 2))
  | [], i, b, h => by simp at h
  | x :: r, 0, b, h => by
    obtain rfl : x = b := by simpa using h
    rfl
  | x :: r, 1, b, h => by
    obtain rfl : x = b := by simpa using h
    rfl
  | x :: r, i + 2, b, h => by
    have e : (i + 2) / 2 = i / 2 + 1 := by omega
    rw [e, List.getElem?_cons_succ] at h
    have := endsL_get r i b h
    rw [show (i + 2) % 2 = i % 2 by omega]
    simpa [endsL] using this
theorem holeIn_ends : ∀ (l : List Bar) (o : List Knot), holeIn o l = (endsL l).foldl insK o
  | [], o => rfl
  | b :: r, o => by
    show holeIn (insK (insK o (lowK b)) (uppK b)) r = _
    rw [holeIn_ends r]
    rfl
def kIn (l : List Bar) (n : Nat) : List Knot := ((endsL l).take n).foldl insK []
theorem kIn_all {l : List Bar} {n : Nat} (h : 2 * l.length ≤ n) : kIn l n = holeK l := by
  unfold kIn holeK
  rw [holeIn_ends, List.take_of_length_le (by rw [endsL_len]; exact h)]
theorem kIn_succ {l : List Bar} {i : Nat} (h : i / 2 < l.length) : kIn l (i + 1) = insK (kIn l i) (endK l[i / 2] (i % 2)) := by
  have h1 := endsL_get l i l[i / 2] (List.getElem?_eq_getElem h)
  obtain ⟨hi, he⟩ := List.getElem?_eq_some_iff.1 h1
  unfold kIn
  rw [List.take_succ_eq_append_getElem hi, List.foldl_append, he]; rfl
theorem foldK_len : ∀ (m o : List Knot), (m.foldl insK o).length ≤ o.length + m.length
  | [], o => by simp
  | k :: m, o => by
    have h := foldK_len m (insK o k)
    have h1 := insK_len k o
    simp only [List.foldl_cons, List.length_cons]
    omega
theorem kIn_len (l : List Bar) (n : Nat) : (kIn l n).length ≤ 2 * l.length := by
  have := foldK_len ((endsL l).take n) []
  have h2 : ((endsL l).take n).length ≤ (endsL l).length := by rw [List.length_take]; omega
  rw [endsL_len] at h2
  simp only [List.length_nil] at this
  unfold kIn
  omega
theorem rends_any (x y s : Int) (hx : -1000000 ≤ x ∧ x ≤ 1000000) (hy : -1000000 ≤ y ∧ y ≤ 1000000) (hs : -10 ≤ s ∧ s ≤ 10) (w : World) :
    Calls Tryz.prog 70 #[.agg #[.int .i64 x, .int .i64 y, .int .i64 s]] w (RV w (.agg #[.int .i64 x, .int .i64 y, .int .i64 (x + s), .int .i64 (y + 1)])) := by
  have hB := (Blk.new w 60 #[.int .i64 x, .int .i64 y, .int .i64 s]).alloc (.cells #[.int .i64 0, .int .i64 0, .int .i64 0, .int .i64 0] 97)
  have hR := Blk.new1 w (.cells #[.int .i64 x, .int .i64 y, .int .i64 s] 60) 97 #[.int .i64 0, .int .i64 0, .int .i64 0, .int .i64 0]
  have fB := hB.facts
  go_enter Tryz.func70, Tryz.ntmps70
  go_wp2
  refine wp_region_ords [0, 2] [(1, false)] [3, 4, 5] (by kernel_rfl) (by kernel_rfl) (fun d _ _ _ _ h => by cases d <;> exact h) ?_
  simp only [List.map_cons, List.map_nil, List.getD_cons_zero, List.getD_cons_succ]
  repeat (go_big_quiet_step (fail))
  refine wpQuiet_nil ?_
  refine wpMid_run rfl (fun K hK => ?_)
  go_simp
  refine (rlower_any _ _ _ _).mono ?_
  rintro e w1 ⟨rfl, hb1⟩
  refine hK _ _ (by (repeat (first | exact bl_refl | assumption | (apply bl_then; assumption) | refine bl_alloc ?_ _ | refine bl_drew ?_ | refine bl_drewN ?_ _))) ?_
  clear hK K
  refine wpMid_nil ?_
  have hB1 := hB.drew.below hb1
  have hR1 := hR.drew.below hb1
  have fB1 := hB1.facts
  go_wp2_with fail
  refine (rupper_any _ _ _ hx hy hs _).mono ?_
  rintro e w2 ⟨rfl, hb2⟩
  have hR2 := hR1.below hb2
  have hb12 : Below w.heap.size w w2 := by (repeat (first | exact bl_refl | assumption | (apply bl_then; assumption) | refine bl_alloc ?_ _ | refine bl_drew ?_ | refine bl_drewN ?_ _))
  go_wp2_with (refine wpList_store_blk hR2 rfl _ _ _ rfl rfl rfl (by rfl) (by kernel_rfl) (by kernel_rfl) ?_; intro w4 hR4 hc4; have fR4 := hR4.facts)
  have hb4 : Below w.heap.size w w4 := ((Chg.of_below hb12).trans (hc4.mono (S' := [w.heap.size + 1]) (by simp))).below (by simp) (Nat.le_refl _)
  refine bodyPost_ret (v := .agg #[.int .i64 x, .int .i64 y, .int .i64 (x + s), .int .i64 (y + 1)]) (by simp [results, Tryz.results70, go_sem, fR4]) rfl ?_
  exact ⟨rfl, by (repeat (first | exact bl_refl | assumption | (apply bl_then; assumption) | refine bl_alloc ?_ _ | refine bl_drew ?_ | refine bl_drewN ?_ _))⟩
end Go.Proofs.YtkmjcoofkgpanaaGreatDoor

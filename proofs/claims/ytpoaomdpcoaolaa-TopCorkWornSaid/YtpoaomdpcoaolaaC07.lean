/- The knots of a net, of the reference, walked. Conditions: bars within bounds. -/
import Derived.Test.YtpoaomdpcoaolaaC06
import Derived.Deep.CutRange
namespace Go.Proofs.Ytpoaomdpcoaolaa
open Go.RowKit Go.ChangeMaps
set_option maxHeartbeats 4000000
set_option maxRecDepth 100000

/-- the knot at a place comes before another one -/
def hitK (l : List Knot) (k : Nat) (e : Knot) : Bool := match l[k]? with
  | some z => decide (kltP z e)
  | none => false
end Go.Proofs.Ytpoaomdpcoaolaa

/- A bar looked for in a net, walked. Conditions: the net is in its order. -/
namespace Go.Proofs.Ytpoaomdpcoaolaa
open Go.RowKit Go.ChangeMaps
set_option maxHeartbeats 4000000
set_option maxRecDepth 100000

theorem barCmp_zero (a b : Bar) : barCmp a.1 a.2.1 a.2.2 b.1 b.2.1 b.2.2 = 0 ↔ a = b := by
  obtain ⟨x, y, s⟩ := a
  obtain ⟨x', y', s'⟩ := b
  simp only [barCmp, cmpI, firstI, Prod.mk.injEq]
  repeat' split
  all_goals first | omega | (constructor <;> intro h <;> omega)
theorem barCmp_neg (a b : Bar) : barCmp a.1 a.2.1 a.2.2 b.1 b.2.1 b.2.2 < 0 ↔ bltP a b := by
  have := barCmp_lt a.1 a.2.1 a.2.2 b.1 b.2.1 b.2.2
  unfold bltP
  cases h : barLt a.1 a.2.1 a.2.2 b.1 b.2.1 b.2.2
  · rw [h] at this
    have h2 : 0 ≤ barCmp a.1 a.2.1 a.2.2 b.1 b.2.1 b.2.2 := of_decide_eq_true this
    constructor
    · intro h3; omega
    · intro h3; cases h3
  · rw [h] at this
    have h2 : ¬ 0 ≤ barCmp a.1 a.2.1 a.2.2 b.1 b.2.1 b.2.2 := of_decide_eq_false this
    constructor
    · intro _; rfl
    · intro _; omega
theorem search_has {l : List Bar} (hs : l.Pairwise bltP) {a : Nat} {e : Bar} (h1 : ∀ t z, t < a → l[t]? = some z → bltP z e) (h2 : ∀ t z, a ≤ t → l[t]? = some z → ¬ bltP z e) :
    hasb l e = match l[a]? with | some z => decide (z = e) | none => false := by
  unfold hasb
  have key : e ∈ l ↔ l[a]? = some e := by
    constructor
    · intro h
      obtain ⟨t, ht, he⟩ := List.getElem_of_mem h
      have hg : l[t]? = some e := by rw [List.getElem?_eq_getElem ht, he]
      rcases Nat.lt_trichotomy t a with h3 | h3 | h3
      · exact absurd (h1 t e h3 hg) (bltP_irrefl e)
      · rw [← h3]; exact hg
      · have ha : a < l.length := by omega
        have := List.pairwise_iff_getElem.1 hs a t ha ht h3
        rw [he] at this
        exact absurd this (h2 a _ (Nat.le_refl _) (List.getElem?_eq_getElem ha))
    · intro h; exact List.mem_of_getElem? h
  have hm : ∀ o : Option Bar, (match o with | some z => decide (z = e) | none => false) = true ↔ o = some e := by intro o; cases o <;> simp
  rw [Bool.eq_iff_iff, decide_eq_true_eq, key]
  exact (hm _).symm
/-- what a binary search for a bar returns -/
theorem search_any {v : Value} (l : List Bar) (x y s : Int) (w : World) (h : SlB w v l) (hs : l.Pairwise bltP) (hlen : l.length ≤ 100000) :
    Calls Try.prog 64 #[v, .agg #[.int .i64 x, .int .i64 y, .int .i64 s], .func (.func 44) #[] #[]] w
      (fun e w' => ∃ i : Nat, e = .returned (.tuple #[.int .i64 i, .bool (hasb l (x, y, s))]) ∧ Below w.heap.size w w') := by
  obtain ⟨A, c, rfl, hlc, hcm, h⟩ := h
  have hB := Blk.new w 50 #[.int .i64 x, .int .i64 y, .int .i64 s]
  have HSO := Lib.hid hs
  clear hs
  go_enter Try.func64, Try.ntmps64
  go_wp2
  go_loopw [9, 10] (fun i j wr => ∃ a b : Nat, i = .int .i64 a ∧ j = .int .i64 b ∧ a ≤ b ∧ b ≤ l.length ∧ Hid ((∀ t z, t < a → l[t]? = some z → bltP z (x, y, s)) ∧ ∀ t z, b ≤ t → l[t]? = some z → ¬ bltP z (x, y, s)) ∧ Blk wr w.heap.size 50 #[.int .i64 x, .int .i64 y, .int .i64 s] ∧ Below w.heap.size w wr) (fun i j _ => (intOf j).toNat - (intOf i).toNat)
  case atStart => exact ⟨0, l.length, rfl, rfl, Nat.zero_le _, Nat.le_refl _, ⟨fun t z h => by omega, fun t z h hz => by rw [List.getElem?_eq_none h] at hz; cases hz⟩, hB, by (repeat (first | exact bl_refl | assumption | (apply bl_then; assumption) | refine bl_alloc ?_ _ | refine bl_drew ?_ | refine bl_drewN ?_ _))⟩
  case round =>
    clear hB
    obtain ⟨a, b, rfl, rfl, hab, hbl, H, hBr, hbw⟩ := hrel
    have fB := hBr.facts
    by_cases hlt : a < b
    · have hmid : (a + b) / 2 < l.length := by omega
      obtain ⟨m, hm⟩ : ∃ m, (a + b) / 2 = m := ⟨_, rfl⟩
      rw [hm] at hmid
      have hr := h.below hbw
      obtain ⟨b3, off3, rfl, hb3, e0, e1, e2⟩ := hr.bar hmid
      obtain ⟨⟨zx, zy, zs⟩, hz⟩ : ∃ z, l[m] = z := ⟨_, rfl⟩
      rw [hz] at e0 e1 e2
      simp only at e0 e1 e2
      have hm' : ((a : Int) + (b : Int)) / 2 = (m : Int) := by omega
      have hzm : l[m]? = some (zx, zy, zs) := by rw [List.getElem?_eq_getElem hmid, hz]
      obtain ⟨cv, hcv⟩ : ∃ q, barCmp zx zy zs x y s = q := ⟨_, rfl⟩
      have hc := fun W => ncompare_any zx zy zs x y s W
      rw [hcv] at hc
      have hn := barCmp_neg (zx, zy, zs) (x, y, s)
      simp only at hn
      rw [hcv] at hn
      have HZ := Lib.hid hzm
      have HN := Lib.hid hn
      clear hm hz hzm hn hcv
      by_cases hneg : cv < 0
      · have t1 : decide (cv < 0) = true := decide_eq_true hneg
        have hb2 : Hid ((∀ t z, t < m + 1 → l[t]? = some z → bltP z (x, y, s)) ∧ ∀ t z, b ≤ t → l[t]? = some z → ¬ bltP z (x, y, s)) := ⟨fun t z ht hg => by
          by_cases h : t = m
          · subst h; rw [HZ.out] at hg; cases hg; exact HN.out.1 hneg
          · obtain ⟨h3, h4⟩ := List.getElem?_eq_some_iff.1 hg
            obtain ⟨h5, h6⟩ := List.getElem?_eq_some_iff.1 HZ.out
            have := List.pairwise_iff_getElem.1 HSO.out t m h3 h5 (by omega)
            rw [h4, h6] at this
            exact bltP_trans this (HN.out.1 hneg), H.out.2⟩
        clear hneg
        go_wp2
        refine wp_region_ords [0, 1, 2, 3, 4, 5] [] [6, 7] (by kernel_rfl) (by kernel_rfl) (fun d _ _ _ _ h => by cases d <;> exact h) ?_
        simp only [List.map_cons, List.map_nil, List.getD_cons_zero, List.getD_cons_succ]
        repeat (go_big_quiet_step (fail))
        refine wpQuiet_nil ?_
        refine wpMid_nil ?_
        go_wp2_with (go_at_call 44; refine (hc _).mono ?_; rintro e w4 ⟨rfl, hb4⟩)
        go_roundw
        case rel => exact ⟨m + 1, b, by go_num, rfl, by omega, hbl, hb2, hBr.below (by (repeat (first | exact bl_refl | assumption | (apply bl_then; assumption) | refine bl_alloc ?_ _ | refine bl_drew ?_ | refine bl_drewN ?_ _))), by (repeat (first | exact bl_refl | assumption | (apply bl_then; assumption) | refine bl_alloc ?_ _ | refine bl_drew ?_ | refine bl_drewN ?_ _))⟩
        case measure => simp [intOf]; omega
      · have t1 : decide (cv < 0) = false := decide_eq_false hneg
        have hb2 : Hid ((∀ t z, t < a → l[t]? = some z → bltP z (x, y, s)) ∧ ∀ t z, m ≤ t → l[t]? = some z → ¬ bltP z (x, y, s)) := ⟨H.out.1, fun t z ht hg hlt => by
          by_cases h : t = m
          · subst h; rw [HZ.out] at hg; cases hg; exact hneg (HN.out.2 hlt)
          · obtain ⟨h3, h4⟩ := List.getElem?_eq_some_iff.1 hg
            obtain ⟨h5, h6⟩ := List.getElem?_eq_some_iff.1 HZ.out
            have := List.pairwise_iff_getElem.1 HSO.out m t h5 h3 (by omega)
            rw [h4, h6] at this
            exact hneg (HN.out.2 (bltP_trans this hlt))⟩
        clear hneg
        go_wp2
        refine wp_region_ords [0, 1, 2, 3, 4, 5] [] [6, 7] (by kernel_rfl) (by kernel_rfl) (fun d _ _ _ _ h => by cases d <;> exact h) ?_
        simp only [List.map_cons, List.map_nil, List.getD_cons_zero, List.getD_cons_succ]
        repeat (go_big_quiet_step (fail))
        refine wpQuiet_nil ?_
        refine wpMid_nil ?_
        go_wp2_with (go_at_call 44; refine (hc _).mono ?_; rintro e w4 ⟨rfl, hb4⟩)
        go_roundw
        case rel => exact ⟨a, m, rfl, rfl, by omega, by omega, hb2, hBr.below (by (repeat (first | exact bl_refl | assumption | (apply bl_then; assumption) | refine bl_alloc ?_ _ | refine bl_drew ?_ | refine bl_drewN ?_ _))), by (repeat (first | exact bl_refl | assumption | (apply bl_then; assumption) | refine bl_alloc ?_ _ | refine bl_drew ?_ | refine bl_drewN ?_ _))⟩
        case measure => simp [intOf]; omega
    · obtain rfl : a = b := by omega
      have hsh := search_has HSO.out H.out.1 H.out.2
      clear hlt
      by_cases hal : a < l.length
      · have hr := h.below hbw
        obtain ⟨b3, off3, rfl, hb3, e0, e1, e2⟩ := hr.bar hal
        obtain ⟨⟨zx, zy, zs⟩, hz⟩ : ∃ z, l[a] = z := ⟨_, rfl⟩
        rw [List.getElem?_eq_getElem hal, hz] at hsh
        rw [hz] at e0 e1 e2
        simp only at e0 e1 e2 hsh
        obtain ⟨cv, hcv⟩ : ∃ q, barCmp zx zy zs x y s = q := ⟨_, rfl⟩
        have hc := fun W => ncompare_any zx zy zs x y s W
        rw [hcv] at hc
        have hn := barCmp_zero (zx, zy, zs) (x, y, s)
        simp only at hn
        rw [hcv] at hn
        obtain ⟨q, hq⟩ : ∃ q, (cv == 0) = q := ⟨_, rfl⟩
        have HS : Hid (hasb l (x, y, s) = q) := by
          unfold Hid
          rw [hsh, ← hq, Bool.eq_iff_iff, decide_eq_true_eq, beq_iff_eq]
          exact hn.symm
        clear hsh hz hn hcv
        cases q
        all_goals
          go_wp2
          refine wp_region_ords [0, 1, 2, 3, 4, 5, 6, 7, 8, 9, 10] [(11, false), (12, true), (13, true), (14, false)] [15] (by kernel_rfl) (by kernel_rfl) (fun d _ _ _ _ h => by cases d <;> exact h) ?_
          simp only [List.map_cons, List.map_nil, List.getD_cons_zero, List.getD_cons_succ]
          repeat (go_big_quiet_step (fail))
          refine wpQuiet_nil ?_
          refine wpMid_run rfl (fun K hK => ?_)
          go_simp
          refine (hc _).mono ?_
          rintro e w4 ⟨rfl, hb4⟩
          refine hK _ _ (by (repeat (first | exact bl_refl | assumption | (apply bl_then; assumption) | refine bl_alloc ?_ _ | refine bl_drew ?_ | refine bl_drewN ?_ _))) ?_
          clear hK K
          refine wpMid_take rfl ?_
          intro K hK
          go_big_quiet_op
          go_big_quiet_on
          refine wpMid_take rfl ?_
          intro K hK
          go_big_quiet_op
          go_big_quiet_on
          refine wpMid_run rfl (fun K hK => ?_)
          go_simp
          refine hK _ _ (by (repeat (first | exact bl_refl | assumption | (apply bl_then; assumption) | refine bl_alloc ?_ _ | refine bl_drew ?_ | refine bl_drewN ?_ _))) ?_
          clear hK K
          refine wpMid_nil ?_
          go_wp2
          refine bodyPost_ret (v := .tuple #[.int .i64 a, .bool (hasb l (x, y, s))]) (by rw [HS.out]; simp [results, Try.results64, go_sem]) rfl ?_
          exact ⟨a, rfl, by (repeat (first | exact bl_refl | assumption | (apply bl_then; assumption) | refine bl_alloc ?_ _ | refine bl_drew ?_ | refine bl_drewN ?_ _))⟩
      · rw [List.getElem?_eq_none (by omega)] at hsh
        have HS : Hid (hasb l (x, y, s) = false) := hsh
        have hlt' : decide ((a : Int) < (l.length : Int)) = false := decide_eq_false (by omega)
        clear hsh
        go_wp2
        refine wp_region_ords [0, 1, 2, 3, 4, 5, 6, 7, 8, 9, 10] [(11, false), (12, true), (13, true), (14, false)] [15] (by kernel_rfl) (by kernel_rfl) (fun d _ _ _ _ h => by cases d <;> exact h) ?_
        simp only [List.map_cons, List.map_nil, List.getD_cons_zero, List.getD_cons_succ]
        repeat (go_big_quiet_step (fail))
        refine wpQuiet_nil ?_
        refine wpMid_skipF (by kernel_rfl) ?_
        intro K hK
        simp only [Act.put, List.setIfInBounds_toArray, List.set_cons_zero, List.set_cons_succ]
        refine hK _ ?_
        clear hK K
        refine wpMid_skipT (by kernel_rfl) ?_
        intro K hK
        simp only [Act.put, List.setIfInBounds_toArray, List.set_cons_zero, List.set_cons_succ]
        refine hK _ ?_
        clear hK K
        refine wpMid_take rfl ?_
        intro K hK
        go_big_quiet_op
        go_big_quiet_on
        refine wpMid_run rfl (fun K hK => ?_)
        go_simp
        refine hK _ _ (by (repeat (first | exact bl_refl | assumption | (apply bl_then; assumption) | refine bl_alloc ?_ _ | refine bl_drew ?_ | refine bl_drewN ?_ _))) ?_
        clear hK K
        refine wpMid_nil ?_
        go_wp2
        refine bodyPost_ret (v := .tuple #[.int .i64 a, .bool (hasb l (x, y, s))]) (by rw [HS.out]; simp [results, Try.results64, go_sem]) rfl ?_
        exact ⟨a, rfl, by (repeat (first | exact bl_refl | assumption | (apply bl_then; assumption) | refine bl_alloc ?_ _ | refine bl_drew ?_ | refine bl_drewN ?_ _))⟩
theorem nhas_any {v : Value} (l : List Bar) (x y s : Int) (w : World) (h : SlB w v l) (hs : l.Pairwise bltP) (hlen : l.length ≤ 100000) :
    Calls Try.prog 58 #[v, .agg #[.int .i64 x, .int .i64 y, .int .i64 s]] w (RV w (.bool (hasb l (x, y, s)))) := by
  have hB := Blk.new w 50 #[.int .i64 x, .int .i64 y, .int .i64 s]
  have h2 := h.alloc (.cells #[.int .i64 x, .int .i64 y, .int .i64 s] 50)
  have fB := hB.facts
  go_enter Try.func58, Try.ntmps58
  go_wp2_with (go_at_call 64; refine (search_any l _ _ _ _ h2 hs hlen).mono ?_; rintro e w1 ⟨i, rfl, hb1⟩)
  go_ret
  exact ⟨rfl, by (repeat (first | exact bl_refl | assumption | (apply bl_then; assumption) | refine bl_alloc ?_ _ | refine bl_drew ?_ | refine bl_drewN ?_ _))⟩
end Go.Proofs.Ytpoaomdpcoaolaa

/- The walk of the twine from a knot with one missing bar, walked. Conditions: the hole's bars are within bounds, each once. -/
import Derived.Test.YtpompeancmonbaaGreatE14
import Derived.WalkMore
namespace Go.Proofs.YtpompeancmonbaaGreat
open Go.RowKit Go.ChangeMaps
set_option maxHeartbeats 4000000
set_option maxRecDepth 100000

/-! ## plain: what the program knows at a step -/
/-- a knot with four missing bars that has been come to from above, by the t-th step -/
def abv (D : List Bar) (d : Dart) (t : Nat) (k : Knot) : Prop := ∃ r, 0 < r ∧ r ≤ t ∧ (dart D d r).1 = k ∧ 3 - (dart D d (r - 1)).2 < 2 ∧ cnt (legsAt D k) = 4
theorem abv_zero (D : List Bar) (d : Dart) (k : Knot) : ¬ abv D d 0 k := fun ⟨r, h1, h2, _⟩ => by omega
theorem abv_step (D : List Bar) (d : Dart) (t : Nat) (k : Knot) : abv D d (t + 1) k ↔ abv D d t k ∨ ((dart D d (t + 1)).1 = k ∧ 3 - (dart D d t).2 < 2 ∧ cnt (legsAt D k) = 4) := by
  constructor
  · rintro ⟨r, h1, h2, h3, h4, h5⟩
    by_cases e : r = t + 1
    · subst e; exact .inr ⟨h3, h4, h5⟩
    · exact .inl ⟨r, h1, by omega, h3, h4, h5⟩
  · rintro (⟨r, h1, h2, h3, h4, h5⟩ | ⟨h3, h4, h5⟩)
    · exact ⟨r, h1, by omega, h3, h4, h5⟩
    · exact ⟨t + 1, by omega, Nat.le_refl _, h3, h4, h5⟩
theorem abv_no4 {D : List Bar} {d : Dart} {t : Nat} (h : cnt (legsAt D (dart D d (t + 1)).1) ≠ 4) (k : Knot) : abv D d (t + 1) k ↔ abv D d t k := by
  rw [abv_step]
  exact ⟨fun e => e.elim id (fun ⟨h1, _, h3⟩ => absurd (h1 ▸ h3) h), .inl⟩
theorem abv_low {D : List Bar} {d : Dart} {t : Nat} (h : ¬ 3 - (dart D d t).2 < 2) (k : Knot) : abv D d (t + 1) k ↔ abv D d t k := by
  rw [abv_step]
  exact ⟨fun e => e.elim id (fun ⟨_, h2, _⟩ => absurd h2 h), .inl⟩
theorem abv_up {D : List Bar} {d : Dart} {t : Nat} (h4 : cnt (legsAt D (dart D d (t + 1)).1) = 4) (h : 3 - (dart D d t).2 < 2) (k : Knot) : abv D d (t + 1) k ↔ k = (dart D d (t + 1)).1 ∨ abv D d t k := by
  rw [abv_step]
  constructor
  · rintro (h1 | ⟨h1, _⟩)
    · exact .inr h1
    · exact .inl h1.symm
  · rintro (h1 | h1)
    · exact .inr ⟨h1.symm, h, h1 ▸ h4⟩
    · exact .inl h1
theorem fineW_one (D : List Bar) (d : Dart) : fineW D d 1 := fun s h1 h2 => by omega
theorem fineW_step (D : List Bar) (d : Dart) (t : Nat) : fineW D d (t + 2) ↔ fineW D d (t + 1) ∧ (cnt (legsAt D (dart D d (t + 1)).1) = 4 → abv D d (t + 1) (dart D d (t + 1)).1) := by
  constructor
  · intro h
    refine ⟨fun s h1 h2 h4 => h s h1 (by omega) h4, fun h4 => ?_⟩
    obtain ⟨r, r1, r2, r3, r4⟩ := h (t + 1) (by omega) (by omega) h4
    exact ⟨r, r1, r2, r3, r4, h4⟩
  · rintro ⟨h1, h2⟩ s s1 s2 h4
    by_cases e : s = t + 1
    · subst e
      obtain ⟨r, r1, r2, r3, r4, _⟩ := h2 h4
      exact ⟨r, r1, r2, r3, r4⟩
    · exact h1 s s1 (by omega) h4
theorem arm_near {k : Knot} {a : Nat} (ha : a < 4) (h : BarOk (armB k a)) : -200002 ≤ k.1 ∧ k.1 ≤ 200002 ∧ -200002 ≤ k.2 ∧ k.2 ≤ 200002 := by
  obtain ⟨x, y⟩ := k
  unfold BarOk at h
  obtain rfl | rfl | rfl | rfl : a = 0 ∨ a = 1 ∨ a = 2 ∨ a = 3 := by omega
  all_goals simp only [armB] at h; omega
theorem pathK_snoc (D : List Bar) (d : Dart) (n : Nat) : pathK D d (n + 1) = pathK D d n ++ [(dart D d n).1] := by
  unfold pathK
  rw [List.range_succ, List.map_append]; rfl
theorem pathK_len (D : List Bar) (d : Dart) (n : Nat) : (pathK D d n).length = n := by simp [pathK]
def lenOf : Value → Nat
  | .slice _ n _ => n
  | _ => 0
theorem und_upper : Tryz.prog.underlying 182 = some (.map 32 4) := by kernel_rfl
theorem look_yes {w : World} {r : Nat} {m : List (Knot × Bool × Nat)} {c : Nat} (h : MapAt kk yes w r m c) (x y : Int) :
    (Instr.lookup 182 (.map (some r)) (.agg #[.int .i64 x, .int .i64 y]) false).run Tryz.prog w = .ok (.bool ((mget (x, y) m).getD false)) w := by
  have := h.look knot_key und_upper (zero_bool w) (x, y)
  refine this.trans ?_
  cases mget (x, y) m <;> rfl

theorem Own.one_knot {w : World} {base : Nat} (h : base ≤ w.heap.size) (x y : Int) : OwK base (w.alloc (.cells #[.int .i64 x, .int .i64 y] 32)) (.slice (some ⟨w.heap.size, 0, none⟩) 1 1) [(x, y)] :=
  ⟨by simp [kc], .inr ⟨w.heap.size, 1, #[.int .i64 x, .int .i64 y], rfl, h, heap_alloc_new w _, by simp, by simp [maxLen], by simp, by simp [kc]⟩⟩
theorem Own.ne_pair {w : World} {base g : Nat} {v a b : Value} {t : TypeId} {l : List Knot} (ho : OwK base w v l) (h2 : 2 ≤ l.length) (hB : Blk w g t #[a, b]) : v.ownBlock ≠ some g := by
  rcases ho.2 with ⟨rfl, hn⟩ | ⟨g', cap, cur, rfl, _, hh, hnc, _, hcs, _⟩
  · omega
  · intro e
    have : g' = g := by simpa [Value.ownBlock] using e
    subst this
    unfold Blk at hB
    rw [hh] at hB
    cases hB
    simp at hcs
    omega
/-- what the second region of the walk makes -/
def walkF (L : Legs) (i : Nat) (v : Value) (W : World) : Prop :=
  (i = 3 → ∃ g, v = .slice (some ⟨g, 0, none⟩) 4 4 ∧ Blk W g 106 (lcs L)) ∧ (i = 4 → v = .int .i64 (fstL L)) ∧ (i = 5 → ∃ g, v = .pointer (some ⟨g, 0, none⟩) ∧ Blk W g 32 #[.int .i64 0, .int .i64 0])
theorem walkF_st (L : Legs) : ∀ i v W W', walkF L i v W → Below W.heap.size W W' → walkF L i v W' := fun i v W W' h hb =>
  ⟨fun hi => by obtain ⟨g, h1, h2⟩ := h.1 hi; exact ⟨g, h1, h2.below hb⟩, h.2.1, fun hi => by obtain ⟨g, h1, h2⟩ := h.2.2 hi; exact ⟨g, h1, h2.below hb⟩⟩

theorem walk_any (h rb rk : Nat) (D : List Bar) (x y : Int) (w : World) (H : HoleAt w h rb rk D) (hk : ∀ b ∈ D, BarOk b) (hlen : D.length ≤ 100000) (h1 : cnt (legsAt D (x, y)) = 1) :
    Calls Tryz.prog 91 #[.pointer (some ⟨h, 0, none⟩), .agg #[.int .i64 x, .int .i64 y]] w
      fun e w' => ∃ v, e = .returned (.tuple #[v, .bool (isRunP D (walkL D (x, y)))]) ∧ OwK w.heap.size w' v (walkL D (x, y)) ∧ Below w.heap.size w w' := by
  have ho : ¬ evn D (x, y) := by unfold evn oddL; rw [h1]; decide
  have hne := odd_ne ho
  obtain ⟨ha0, hb0⟩ := arm0_ok hne
  obtain ⟨L, hL, hLD, hwl⟩ := walkL_eq ho
  have hrun := isRun_walk ho hL
  obtain ⟨d, hd⟩ : ∃ d : Dart, ((x, y), arm0 D (x, y)) = d := ⟨_, rfl⟩
  have hok := dart_ok (n := L - 1) ha0 hb0 (fun t h1 h2 => hL.even t h1 (by omega))
  rw [hd] at hL hrun hok hwl
  have hd1 : d.1 = (x, y) := by rw [← hd]
  have hd2 : d.2 = fstL (legsAt D (x, y)) := by rw [← hd, fstL_arm]
  have hnear : ∀ t, t < L → -200002 ≤ (dart D d t).1.1 ∧ (dart D d t).1.1 ≤ 200002 ∧ -200002 ≤ (dart D d t).1.2 ∧ (dart D d t).1.2 ≤ 200002 := fun t ht => by
    obtain ⟨q1, q2⟩ := hok t (by omega)
    exact arm_near q1 (hk _ q2)
  obtain ⟨R, hR⟩ : ∃ R, isRunP D (walkL D (x, y)) = R := ⟨_, rfl⟩
  rw [hR] at hrun ⊢
  have HRUN := Lib.hid hrun
  have HWL := Lib.hid hwl
  have HL := Lib.hid hL
  have HOK := Lib.hid hok
  have HNE := Lib.hid hnear
  have hL0 := hL.pos
  rw [hwl]
  have HD1 := Lib.hid hd1
  have HD2 := Lib.hid hd2
  have HN := Lib.hid hne
  clear hrun hwl hL hok hnear hR hd1 hd2 ha0 hb0 hd ho h1 hne
  have hHk := H.below (bl_alloc bl_refl (.cells #[.int .i64 x, .int .i64 y] 32))
  have hH2 := hHk.below (bl_alloc bl_refl (.cells #[.int .i64 x, .int .i64 y] 32))
  have hS := Sl.one_knot (w.alloc (.cells #[.int .i64 x, .int .i64 y] 32)) x y
  go_enter Tryz.func91, Tryz.ntmps91
  go_wp2
  go_step3
  go_wp2
  refine wp_region_facts (walkF (legsAt D (x, y))) [0, 1, 2] [5] [3, 4, 5] [6, 7] (by decide) (by kernel_rfl) (by kernel_rfl) (fun d _ _ _ _ h => by cases d <;> exact h) (walkF_st (legsAt D (x, y))) ?_
  simp only [List.map_cons, List.map_nil, List.getD_cons_zero, List.getD_cons_succ]
  repeat (go_big_quiet_step (fail))
  refine wpQuiet_nil ⟨List.forall_mem_cons.2 ⟨?_, List.forall_mem_cons.2 ⟨?_, List.forall_mem_cons.2 ⟨?_, List.forall_mem_nil _⟩⟩⟩, ?_⟩
  · intro vals W hbW hF
    refine facts_step (fun K hK => ?_)
    simp only [putAll, Array.getD_eq_getD_getElem?, List.getElem?_toArray, List.getElem?_cons_succ, List.getElem?_cons_zero, Option.getD_some, List.getD_cons_succ, List.getD_cons_zero, Act.put, List.setIfInBounds_toArray, List.set_cons_zero, List.set_cons_succ]
    go_simp
    refine (legsOf_any h rb rk D x y _ (hH2.below hbW)).mono ?_
    rintro e w1 ⟨g, rfl, hg, hBg, hb1⟩
    exact hK _ _ _ rfl hb1 ⟨fun _ => ⟨g, rfl, hBg⟩, fun h => by simp at h, fun h => by simp at h⟩ (fun h => by simp at h)
  · intro vals W hbW hF
    refine facts_step (fun K hK => ?_)
    simp only [putAll, Array.getD_eq_getD_getElem?, List.getElem?_toArray, List.getElem?_cons_succ, List.getElem?_cons_zero, Option.getD_some, List.getD_cons_succ, List.getD_cons_zero, Act.put, List.setIfInBounds_toArray, List.set_cons_zero, List.set_cons_succ]
    go_simp
    obtain ⟨g, hv3, hBg⟩ := (hF 3 (List.mem_of_elem_eq_true (by kernel_rfl))).1 rfl
    have hcon := index_any g _ W hBg HN.out
    rw [← hv3] at hcon
    refine hcon.mono ?_
    rintro e w1 ⟨rfl, hb1⟩
    exact hK _ _ _ rfl hb1 ⟨fun h => by simp at h, fun _ => rfl, fun h => by simp at h⟩ (fun h => by simp at h)
  · intro vals W hbW hF
    refine facts_step (fun K hK => ?_)
    simp only [putAll, Array.getD_eq_getD_getElem?, List.getElem?_toArray, List.getElem?_cons_succ, List.getElem?_cons_zero, Option.getD_some, List.getD_cons_succ, List.getD_cons_zero, Act.put, List.setIfInBounds_toArray, List.set_cons_zero, List.set_cons_succ]
    go_simp
    exact hK _ _ _ rfl (bl_alloc bl_refl _) ⟨fun h => by simp at h, fun h => by simp at h, fun _ => ⟨_, rfl, Blk.new _ _ _⟩⟩ (fun _ => ⟨_, rfl, Nat.le_refl _, by simp⟩)
  · intro vals W hbW hF hAp
    simp only [putAll, Array.getD_eq_getD_getElem?, List.getElem?_toArray, List.getElem?_cons_succ, List.getElem?_cons_zero, Option.getD_some, Act.put, List.setIfInBounds_toArray, List.set_cons_zero, List.set_cons_succ]
    have h4 := (hF 4 (by simp)).2.1 rfl
    obtain ⟨gk, e5, hB5⟩ := (hF 5 (by simp)).2.2 rfl
    obtain ⟨gk', e5', hlk, _⟩ := hAp.1 5 (by simp)
    obtain rfl : gk = gk' := by simpa [e5] using e5'
    simp only [h4, e5]
    simp at hlk
    have hbW0 : Below w.heap.size w W := bl_aa hbW
    have hO : OwK w.heap.size W (.slice (some ⟨w.heap.size + 1, 0, none⟩) 1 1) [(x, y)] := by
      have := (Own.one_knot (w := w.alloc (.cells #[.int .i64 x, .int .i64 y] 32)) (base := w.heap.size) (by simp) x y).below hbW
      simpa using this
    clear hF hAp h4 e5 e5' hHk hH2 hS
    refine wpList_store_blk hB5 rfl _ _ _ rfl rfl rfl (by rfl) (by kernel_rfl) (by kernel_rfl) fun w2 hB2 hc2 => ?_
    have hneG : (Value.slice (some ⟨w.heap.size + 1, 0, none⟩) 1 1).ownBlock ≠ some gk := by simp [Value.ownBlock]; omega
    have hO2 := (hO.chg1 hc2 hneG).alloc (.map #[] 0)
    have hbw2 : Below w.heap.size w w2 := ((Chg.of_below hbW0).trans (hc2.mono (S' := [gk]) (by simp))).below (by simp; omega) (Nat.le_refl _)
    have hBk2 := hB2.alloc (.map #[] 0)
    have hM2 := MapAt.new w2 kk yes
    have hgk2 : gk < w2.heap.size := hB2.lt
    go_wp2
    go_step3
    go_wp2
    go_loopw [6, 8, 10] (fun o a f wr => ∃ (t : Nat) (fb : Bool) (m : List (Knot × Bool × Nat)) (c : Nat), t < L ∧ a = .int .i64 ((dart D d t).2 : Nat) ∧ f = .bool fb ∧ Hid (fb = true ↔ fineW D d (t + 1)) ∧ OwK w.heap.size wr o (pathK D d (t + 1)) ∧ o.ownBlock ≠ some gk ∧
        Blk wr gk 32 #[.int .i64 (dart D d t).1.1, .int .i64 (dart D d t).1.2] ∧ MapAt kk yes wr w2.heap.size m c ∧ Hid (MOk m c ∧ ∀ k, (mget k m).getD false = true ↔ abv D d t k) ∧ Below w.heap.size w wr) (fun o _ _ _ => L + 1 - lenOf o)
    case atStart =>
      refine ⟨0, true, [], 0, hL0, ?_, rfl, ⟨fun _ => fineW_one D d, fun _ => rfl⟩, ?_, hneG, ?_, hM2, ⟨MOk.nil_, fun k => ⟨fun h => by simp [mget] at h, fun h => absurd h (abv_zero D d k)⟩⟩, by (repeat (first | exact bl_refl | assumption | (apply bl_then; assumption) | refine bl_alloc ?_ _ | refine bl_drew ?_ | refine bl_drewN ?_ _))⟩
      · show _ = Value.int .i64 (d.2 : Nat)
        rw [HD2.out]
      · have : pathK D d 1 = [(x, y)] := by show [d.1] = _; rw [HD1.out]
        rw [this]; exact hO2
      · show Blk _ gk _ #[.int .i64 d.1.1, .int .i64 d.1.2]
        rw [HD1.out]; exact hBk2
    case round =>
      clear hO2 hM2 hBk2 hO hB2 hB5
      obtain ⟨t, fb, m, c, htL, rfl, rfl, HF, hown, hneo, hBk, hM, HM, hbw⟩ := hrel
      obtain ⟨o', c', rfl⟩ := hown.shape
      rw [pathK_len] at hown hneo ⊢
      obtain ⟨dt, hdt⟩ : ∃ dt, dart D d t = dt := ⟨_, rfl⟩
      obtain ⟨hA, hbar⟩ := HOK.out t (by omega)
      have hnr := HNE.out t htL
      rw [hdt] at hA hbar hnr hBk ⊢
      obtain ⟨⟨kx, ky⟩, A⟩ := dt
      simp only at hA hnr hBk ⊢
      obtain ⟨⟨px, py⟩, hp⟩ : ∃ p, armK (kx, ky) A = p := ⟨_, rfl⟩
      have hnx : dart D d (t + 1) = ((px, py), onw (legsAt D (px, py)) (3 - A)) := by
        show nxt D (dart D d t) = _
        rw [hdt]; unfold nxt; rw [hp]
      have hArm := fun W => arm_cells kx ky A hA (by omega) (by omega) W
      rw [hp] at hArm
      have hsn := pathK_snoc D d (t + 1)
      rw [hnx] at hsn
      have HSN := Lib.hid hsn
      have HNX := Lib.hid hnx
      have HDT := Lib.hid hdt
      have HBAR := Lib.hid hbar
      have hlen2 : (pathK D d (t + 1)).length ≤ 1000000 := by have := pathK_len D d (t + 1); omega
      clear hp hsn hnx hdt hbar
      have fBk := hBk.facts
      go_wp2_with (first | (go_at_call 129; refine (hArm _).mono ?_; rintro e w3 ⟨rfl, hb3⟩; have hBk3 := hBk.below hb3; have hown3 := hown.below hb3; have hM3 := hM.below hb3) |
        (refine wpList_store_blk hBk3 rfl _ _ _ rfl rfl rfl (by rfl) (by kernel_rfl) (by kernel_rfl) ?_; intro w4 hBk4 hc4; have hc4b : Below w.heap.size w w4 := ((Chg.of_below (bl_then hb3 hbw)).trans (hc4.mono (S' := [gk]) (by simp))).below (by simp; omega) (Nat.le_refl _); have fBk4 := hBk4.facts; have hown4 := hown3.chg1 hc4 hneo; have hM4 := hM3.chg hc4 (by simp; omega)) |
        (at_builtin; refine wpList_appK1 hown4 rfl _ _ rfl rfl rfl rfl hlen2 hc4b.size ?_; intro v5 w5 hown5 hgr5))
      have hbw5 := own_step hown4 hgr5 (bl_then (bl_alloc bl_refl _) hc4b)
      have hBk5 := (hBk4.alloc (.cells #[.int .i64 px, .int .i64 py] 32)).grown hgr5 (Ne.symm hneo)
      have hM5 := (hM4.alloc (.cells #[.int .i64 px, .int .i64 py] 32)).grown hgr5 (Ne.symm ((hM4.alloc _).ne_own (hown4.alloc (.cells #[.int .i64 px, .int .i64 py] 32))))
      have H5 := H.below hbw5
      rw [← HSN.out] at hown5
      have hneo5 := hown5.ne_pair (by rw [pathK_len]; omega) hBk5
      obtain ⟨o5, c5, rfl⟩ := hown5.shape
      rw [pathK_len] at hown5 hneo5 ⊢
      clear fBk fBk4 hBk3 hBk4 hc4 hc4b hown3 hown4 hM3 hM4 hb3 hown hneo hBk hM hgr5 hbw
      obtain ⟨mk, ck, hmk, _, gk5⟩ := H5.knots
      obtain ⟨⟨l0, l1, l2, l3⟩, hL'⟩ : ∃ L', legsAt D (px, py) = L' := ⟨_, rfl⟩
      have hlook : ∀ g : Bel w5.heap.size w5, (Instr.lookup 120 (.map (some rk)) (.agg #[.int .i64 px, .int .i64 py]) false).run Tryz.prog g.val = .ok (.agg #[.bool l0, .bool l1, .bool l2, .bool l3]) g.val := fun g => by
        rw [look_legs (hmk.below g.below) px py, gk5 (px, py), legsO_getD, hL']; rfl
      have HL' := Lib.hid hL'
      have fH := H5.blk.facts
      have fBk5 := hBk5.facts
      clear hmk gk5 hL'
      refine wp_region_ords [0, 1, 2, 3, 4, 5] [(6, false)] [7] (by kernel_rfl) (by kernel_rfl) (fun d _ _ _ _ h => by cases d <;> exact h) ?_
      simp only [List.map_cons, List.map_nil, List.getD_cons_zero, List.getD_cons_succ]
      repeat (go_big_quiet_step (fail))
      refine wpQuiet_nil ?_
      clear hlook
      refine wpMid_run rfl (fun K hK => ?_)
      go_simp
      refine hK _ _ (by (repeat (first | exact bl_refl | assumption | (apply bl_then; assumption) | refine bl_alloc ?_ _ | refine bl_drew ?_ | refine bl_drewN ?_ _))) ?_
      clear hK K
      refine wpMid_nil ?_
      have hBl := (Blk.new w5 106 #[.bool l0, .bool l1, .bool l2, .bool l3]).drew
      have hbA : Below w5.heap.size w5 (w5.alloc (.cells #[.bool l0, .bool l1, .bool l2, .bool l3] 106)).drew := by (repeat (first | exact bl_refl | assumption | (apply bl_then; assumption) | refine bl_alloc ?_ _ | refine bl_drew ?_ | refine bl_drewN ?_ _))
      have hBkA := hBk5.below hbA
      have hMA := hM5.below hbA
      have hownA := hown5.below hbA
      have hbwA := bl_then hbA hbw5
      have HA := H5.below hbA
      clear fBk5 hBk5 hM5 hown5 hbw5 H5 hbA fH
      obtain ⟨B, hB⟩ : ∃ B, 3 - A = B := ⟨_, rfl⟩
      have hBcast : (3 : Int) - (A : Int) = (B : Int) := by omega
      have hB4 : B < 4 := by omega
      have HB := Lib.hid hB
      rw [hB] at HNX
      clear hB
      obtain ⟨qo, hqo⟩ : ∃ q, oddL (l0, l1, l2, l3) = q := ⟨_, rfl⟩
      have HQO : Hid (qo = true ↔ t + 1 = L) := by
        rw [← hqo]
        constructor
        · intro h1
          rcases Nat.lt_or_ge (t + 1) L with h2 | h2
          · have := HL.out.even (t + 1) (by omega) h2
            rw [HNX.out] at this
            unfold evn at this
            rw [HL'.out, h1] at this
            cases this
          · omega
        · intro hend
          have h1 := HL.out.odd
          rw [← hend, HNX.out] at h1
          unfold evn at h1
          rw [HL'.out] at h1
          simpa using h1
      go_wp2_with fail
      refine (odd_any l0 l1 l2 l3 _).mono ?_
      rintro e w6 ⟨rfl, hb6⟩
      rw [hqo]
      replace hBl := hBl.below hb6
      replace hBkA := hBkA.below hb6
      replace hMA := hMA.below hb6
      replace hownA := hownA.below hb6
      replace hbwA := bl_then hb6 hbwA
      replace HA := HA.below hb6
      have fBl := hBl.facts
      clear hb6 hqo
      cases qo
      · have hlt' : t + 1 < L := by
          have : ¬ t + 1 = L := fun e => by have := HQO.out.2 e; cases this
          omega
        go_wp2_with fail
        refine (count_any l0 l1 l2 l3 _).mono ?_
        rintro e w7 ⟨rfl, hb7⟩
        replace hBl := hBl.below hb7
        replace hBkA := hBkA.below hb7
        replace hMA := hMA.below hb7
        replace hownA := hownA.below hb7
        replace hbwA := bl_then hb7 hbwA
        clear fBl hb7 HA
        have fBl := hBl.facts
        have fBk := hBkA.facts
        have h41 : Hid ((dart D d (t + 1)).1 = (px, py)) := by unfold Hid; rw [HNX.out]
        have hAB : Hid (3 - (dart D d t).2 = B) := by unfold Hid; rw [HDT.out]; exact HB.out
        have hon : Hid (((dart D d (t + 1)).2 : Nat) = onw (l0, l1, l2, l3) B) := by unfold Hid; rw [HNX.out, HL'.out]
        have hcn : Hid (cnt (legsAt D (dart D d (t + 1)).1) = cnt (l0, l1, l2, l3)) := by unfold Hid; rw [h41.out, HL'.out]
        obtain ⟨q4, hq4⟩ : ∃ q, (((cnt (l0, l1, l2, l3) : Nat) : Int) == 4) = q := ⟨_, rfl⟩
        cases q4
        · have h4 : Hid (cnt (legsAt D (dart D d (t + 1)).1) ≠ 4) := by unfold Hid; rw [hcn.out]; intro e; rw [e] at hq4; cases hq4
          go_wp2_with (go_at_call 130; refine (onward_any l0 l1 l2 l3 B hB4 _).mono ?_; rintro e w8 ⟨rfl, hb8⟩)
          go_roundw
          case rel =>
            refine ⟨t + 1, fb, m, c, hlt', by rw [hon.out], rfl, ?_, hownA.below hb8, hneo5, by rw [HNX.out]; exact hBkA.below hb8, hMA.below hb8, ?_, bl_then hb8 hbwA⟩
            · unfold Hid
              rw [HF.out, fineW_step]
              exact ⟨fun h => ⟨h, fun e => absurd e h4.out⟩, fun h => h.1⟩
            · exact ⟨HM.out.1, fun k => by rw [HM.out.2 k, abv_no4 h4.out]⟩
          case measure => simp [lenOf]; omega
        · have h4 : Hid (cnt (legsAt D (dart D d (t + 1)).1) = 4) := by
            unfold Hid
            rw [hcn.out]
            have : ((cnt (l0, l1, l2, l3) : Nat) : Int) = 4 := by simpa using hq4
            omega
          have hne1 := blk_ne_map hBl hMA
          have hne2 := blk_ne_map hBkA hMA
          have hne3 := hMA.ne_own hownA
          by_cases hB2 : B < 2
          · obtain ⟨w8, hput, hM8, hc8⟩ := hMA.put_ knot_key und_upper (px, py) true
            have hput' : (Instr.mapUpdate 182 (.map (some w2.heap.size)) (.agg #[.int .i64 px, .int .i64 py]) (.bool true)).run Tryz.prog w7 = .ok () w8 := hput
            have hBl8 := hBl.chg hc8 (by simp [hne1])
            have hBk8 := hBkA.chg hc8 (by simp [hne2])
            have hown8 := hownA.chg1 hc8 hne3
            have hbw8 : Below w.heap.size w w8 := ((Chg.of_below hbwA).trans (hc8.mono (S' := [w2.heap.size]) (by simp))).below (by simp; exact hbw2.size) (Nat.le_refl _)
            have hlk := look_yes hM8 px py
            rw [mget_put, if_pos rfl] at hlk
            simp only [Option.getD_some] at hlk
            clear hput fBl
            have fBl8 := hBl8.facts
            have fBk8 := hBk8.facts
            have HR : Hid ((fb = true ↔ fineW D d (t + 2)) ∧ MOk (mput (px, py) true c m) (mclk (px, py) m c) ∧ ∀ k, (mget k (mput (px, py) true c m)).getD false = true ↔ abv D d (t + 1) k) := by
              refine ⟨?_, HM.out.1.put _ _, fun k => ?_⟩
              · rw [HF.out, fineW_step]
                exact ⟨fun h => ⟨h, fun _ => (abv_up h4.out (by rw [hAB.out]; exact hB2) _).2 (.inl rfl)⟩, fun h => h.1⟩
              · rw [abv_up h4.out (by rw [hAB.out]; exact hB2), ← HM.out.2 k, mget_put, h41.out]
                by_cases e : k = (px, py)
                · simp [e]
                · simp [e]
            cases fb
            all_goals
              go_wp2_with (go_at_call 130; refine (onward_any l0 l1 l2 l3 B hB4 _).mono ?_; rintro e w9 ⟨rfl, hb9⟩)
              go_roundw
              case rel => exact ⟨t + 1, _, _, _, hlt', by rw [hon.out], rfl, by have h := HR.out.1; unfold Hid; simpa using h, hown8.below hb9, hneo5, by rw [HNX.out]; exact hBk8.below hb9, hM8.below hb9, HR.out.2, bl_then hb9 hbw8⟩
              case measure => simp [lenOf]; omega
          · have hlk := look_yes hMA px py
            obtain ⟨g, hg⟩ : ∃ g, (mget (px, py) m).getD false = g := ⟨_, rfl⟩
            rw [hg] at hlk
            have HG := Lib.hid hg
            clear hg
            have HAV : Hid (∀ k, abv D d (t + 1) k ↔ abv D d t k) := fun k => abv_low (by rw [hAB.out]; exact hB2) k
            have HR : Hid (((fb && g) = true ↔ fineW D d (t + 2)) ∧ MOk m c ∧ ∀ k, (mget k m).getD false = true ↔ abv D d (t + 1) k) := by
              refine ⟨?_, HM.out.1, fun k => by rw [HAV.out]; exact HM.out.2 k⟩
              rw [Bool.and_eq_true, HF.out, fineW_step, HAV.out, h41.out, ← HM.out.2, HG.out]
              exact ⟨fun ⟨h1, h2⟩ => ⟨h1, fun _ => h2⟩, fun ⟨h1, h2⟩ => ⟨h1, h2 (by rw [← h41.out]; exact h4.out)⟩⟩
            cases fb
            all_goals
              go_wp2_with (go_at_call 130; refine (onward_any l0 l1 l2 l3 B hB4 _).mono ?_; rintro e w9 ⟨rfl, hb9⟩)
              go_roundw
              case rel => exact ⟨t + 1, _, _, _, hlt', by rw [hon.out], rfl, by have h := HR.out.1; unfold Hid; simpa using h, hownA.below hb9, hneo5, by rw [HNX.out]; exact hBkA.below hb9, hMA.below hb9, HR.out.2, bl_then hb9 hbwA⟩
              case measure => simp [lenOf]; omega
      · have hend : t + 1 = L := HQO.out.1 rfl
        obtain ⟨mk6, ck6, hmk6, _, gk6⟩ := HA.knots
        obtain ⟨mb6, cb6, hmb6, _, _, lb6⟩ := HA.bars
        have hlook : ∀ g : Bel w6.heap.size w6, (Instr.lookup 120 (.map (some rk)) (.agg #[.int .i64 px, .int .i64 py]) false).run Tryz.prog g.val = .ok (.agg #[.bool l0, .bool l1, .bool l2, .bool l3]) g.val := fun g => by
          rw [look_legs (hmk6.below g.below) px py, gk6 (px, py), legsO_getD, HL'.out]; rfl
        have fH := HA.blk.facts
        have fBk := hBkA.facts
        have hcl := cnt_le (l0, l1, l2, l3)
        clear fBl hmk6 gk6
        have HEND : Hid ((dart D d L).1 = (px, py) ∧ pathK D d (L + 1) = pathK D d (t + 1 + 1)) := by rw [← hend]; exact ⟨by rw [HNX.out], rfl⟩
        have HF' : Hid (fb = true ↔ fineW D d L) := by rw [← hend]; exact HF.out
        have HT : Hid (t + 1 = L) := hend
        have hc1 : Hid (cnt (legsAt D (dart D d L).1) = cnt (l0, l1, l2, l3)) := by unfold Hid; rw [HEND.out.1, HL'.out]
        have hLen : Hid (mb6.length = D.length) := lb6
        have hbig : mb6.length ≤ 100000 := by omega
        have htb : t + 1 + 1 ≤ 200000 := by omega
        clear hend HF HQO lb6
        cases fb
        · have hRf : R = false := by
            cases R
            · rfl
            · have := HF'.out.2 (HRUN.out.1 rfl).1; cases this
          subst hRf
          go_wp2
          refine wp_region_ords [0, 1, 2, 3, 4, 5, 6, 7, 8] [(9, false), (10, false), (11, false), (12, false), (13, true), (14, true), (15, true), (16, false), (17, false), (18, false), (19, false), (20, false), (21, true), (22, true), (23, false)] [24] (by kernel_rfl) (by kernel_rfl) (fun d _ _ _ _ h => by cases d <;> exact h) ?_
          simp only [List.map_cons, List.map_nil, List.getD_cons_zero, List.getD_cons_succ]
          repeat (go_big_quiet_step (fail))
          refine wpQuiet_nil ?_
          refine wpMid_skipF (by kernel_rfl) ?_
          intro K hK
          simp only [Act.put, List.setIfInBounds_toArray, List.set_cons_zero, List.set_cons_succ]
          refine hK _ ?_
          clear hK K
          refine wpMid_skipF (by kernel_rfl) ?_
          intro K hK
          simp only [Act.put, List.setIfInBounds_toArray, List.set_cons_zero, List.set_cons_succ]
          refine hK _ ?_
          clear hK K
          refine wpMid_run rfl (fun K hK => ?_)
          go_simp
          refine hK _ _ (by (repeat (first | exact bl_refl | assumption | (apply bl_then; assumption) | refine bl_alloc ?_ _ | refine bl_drew ?_ | refine bl_drewN ?_ _))) ?_
          clear hK K
          refine wpMid_run rfl (fun K hK => ?_)
          go_simp
          refine hK _ _ (by (repeat (first | exact bl_refl | assumption | (apply bl_then; assumption) | refine bl_alloc ?_ _ | refine bl_drew ?_ | refine bl_drewN ?_ _))) ?_
          clear hK K
          refine wpMid_skipT (by kernel_rfl) ?_
          intro K hK
          simp only [Act.put, List.setIfInBounds_toArray, List.set_cons_zero, List.set_cons_succ]
          refine hK _ ?_
          clear hK K
          refine wpMid_skipT (by kernel_rfl) ?_
          intro K hK
          simp only [Act.put, List.setIfInBounds_toArray, List.set_cons_zero, List.set_cons_succ]
          refine hK _ ?_
          clear hK K
          refine wpMid_skipT (by kernel_rfl) ?_
          intro K hK
          simp only [Act.put, List.setIfInBounds_toArray, List.set_cons_zero, List.set_cons_succ]
          refine hK _ ?_
          clear hK K
          refine wpMid_skipF (by kernel_rfl) ?_
          intro K hK
          simp only [Act.put, List.setIfInBounds_toArray, List.set_cons_zero, List.set_cons_succ]
          refine hK _ ?_
          clear hK K
          refine wpMid_skipF (by kernel_rfl) ?_
          intro K hK
          simp only [Act.put, List.setIfInBounds_toArray, List.set_cons_zero, List.set_cons_succ]
          refine hK _ ?_
          clear hK K
          refine wpMid_skipF (by kernel_rfl) ?_
          intro K hK
          simp only [Act.put, List.setIfInBounds_toArray, List.set_cons_zero, List.set_cons_succ]
          refine hK _ ?_
          clear hK K
          refine wpMid_skipF (by kernel_rfl) ?_
          intro K hK
          simp only [Act.put, List.setIfInBounds_toArray, List.set_cons_zero, List.set_cons_succ]
          refine hK _ ?_
          clear hK K
          refine wpMid_skipF (by kernel_rfl) ?_
          intro K hK
          simp only [Act.put, List.setIfInBounds_toArray, List.set_cons_zero, List.set_cons_succ]
          refine hK _ ?_
          clear hK K
          refine wpMid_skipT (by kernel_rfl) ?_
          intro K hK
          simp only [Act.put, List.setIfInBounds_toArray, List.set_cons_zero, List.set_cons_succ]
          refine hK _ ?_
          clear hK K
          refine wpMid_take rfl ?_
          intro K hK
          go_big_quiet_op
          go_big_quiet_on
          refine wpMid_run rfl (fun K hK => ?_)
          go_simp
          refine hK _ _ (by (repeat (first | exact bl_refl | assumption | (apply bl_then; assumption) | refine bl_alloc ?_ _ | refine bl_drew ?_ | refine bl_drewN ?_ _))) ?_
          clear hK K
          refine wpMid_nil ?_
          go_wp2
          rw [Exit.noGoto_ret]
          go_ret2
          exact ⟨_, rfl, by rw [HEND.out.2]; exact hownA, by (repeat (first | exact bl_refl | assumption | (apply bl_then; assumption) | refine bl_alloc ?_ _ | refine bl_drew ?_ | refine bl_drewN ?_ _))⟩
        · obtain ⟨q1, hq1⟩ : ∃ q, (((cnt (l0, l1, l2, l3) : Nat) : Int) == 1) = q := ⟨_, rfl⟩
          go_wp2
          refine wp_region_ords [0, 1, 2, 3, 4, 5, 6, 7, 8] [(9, false), (10, false), (11, false), (12, false), (13, true), (14, true), (15, true), (16, false), (17, false), (18, false), (19, false), (20, false), (21, true), (22, true), (23, false)] [24] (by kernel_rfl) (by kernel_rfl) (fun d _ _ _ _ h => by cases d <;> exact h) ?_
          simp only [List.map_cons, List.map_nil, List.getD_cons_zero, List.getD_cons_succ]
          repeat (go_big_quiet_step (fail))
          refine wpQuiet_nil ?_
          refine wpMid_run rfl (fun K hK => ?_)
          go_simp
          refine (count_any l0 l1 l2 l3 _).mono ?_
          rintro e w7 ⟨rfl, hb7⟩
          refine hK _ _ (by (repeat (first | exact bl_refl | assumption | (apply bl_then; assumption) | refine bl_alloc ?_ _ | refine bl_drew ?_ | refine bl_drewN ?_ _))) ?_
          clear hK K
          have HA7 := HA.below (bl_d hb7)
          have hmb7 := hmb6.below (bl_d hb7)
          have hlm := fun ty => hmb7.len und_bars ty
          have fH7 := HA7.blk.facts
          cases q1
          · have hRf : R = false := by
              cases R
              · rfl
              · have := (HRUN.out.1 rfl).2.1
                rw [hc1.out] at this
                rw [this] at hq1
                cases hq1
            subst hRf
            refine wpMid_run rfl (fun K hK => ?_)
            go_simp
            refine hK _ _ (by (repeat (first | exact bl_refl | assumption | (apply bl_then; assumption) | refine bl_alloc ?_ _ | refine bl_drew ?_ | refine bl_drewN ?_ _))) ?_
            clear hK K
            refine wpMid_run rfl (fun K hK => ?_)
            go_simp
            refine hK _ _ (by (repeat (first | exact bl_refl | assumption | (apply bl_then; assumption) | refine bl_alloc ?_ _ | refine bl_drew ?_ | refine bl_drewN ?_ _))) ?_
            clear hK K
            refine wpMid_run rfl (fun K hK => ?_)
            go_simp
            refine hK _ _ (by (repeat (first | exact bl_refl | assumption | (apply bl_then; assumption) | refine bl_alloc ?_ _ | refine bl_drew ?_ | refine bl_drewN ?_ _))) ?_
            clear hK K
            refine wpMid_skipT (by kernel_rfl) ?_
            intro K hK
            simp only [Act.put, List.setIfInBounds_toArray, List.set_cons_zero, List.set_cons_succ]
            refine hK _ ?_
            clear hK K
            refine wpMid_skipT (by kernel_rfl) ?_
            intro K hK
            simp only [Act.put, List.setIfInBounds_toArray, List.set_cons_zero, List.set_cons_succ]
            refine hK _ ?_
            clear hK K
            refine wpMid_skipT (by kernel_rfl) ?_
            intro K hK
            simp only [Act.put, List.setIfInBounds_toArray, List.set_cons_zero, List.set_cons_succ]
            refine hK _ ?_
            clear hK K
            refine wpMid_skipF (by kernel_rfl) ?_
            intro K hK
            simp only [Act.put, List.setIfInBounds_toArray, List.set_cons_zero, List.set_cons_succ]
            refine hK _ ?_
            clear hK K
            refine wpMid_skipF (by kernel_rfl) ?_
            intro K hK
            simp only [Act.put, List.setIfInBounds_toArray, List.set_cons_zero, List.set_cons_succ]
            refine hK _ ?_
            clear hK K
            refine wpMid_skipF (by kernel_rfl) ?_
            intro K hK
            simp only [Act.put, List.setIfInBounds_toArray, List.set_cons_zero, List.set_cons_succ]
            refine hK _ ?_
            clear hK K
            refine wpMid_skipF (by kernel_rfl) ?_
            intro K hK
            simp only [Act.put, List.setIfInBounds_toArray, List.set_cons_zero, List.set_cons_succ]
            refine hK _ ?_
            clear hK K
            refine wpMid_skipF (by kernel_rfl) ?_
            intro K hK
            simp only [Act.put, List.setIfInBounds_toArray, List.set_cons_zero, List.set_cons_succ]
            refine hK _ ?_
            clear hK K
            refine wpMid_skipT (by kernel_rfl) ?_
            intro K hK
            simp only [Act.put, List.setIfInBounds_toArray, List.set_cons_zero, List.set_cons_succ]
            refine hK _ ?_
            clear hK K
            refine wpMid_take rfl ?_
            intro K hK
            go_big_quiet_op
            go_big_quiet_on
            refine wpMid_run rfl (fun K hK => ?_)
            go_simp
            refine hK _ _ (by (repeat (first | exact bl_refl | assumption | (apply bl_then; assumption) | refine bl_alloc ?_ _ | refine bl_drew ?_ | refine bl_drewN ?_ _))) ?_
            clear hK K
            refine wpMid_nil ?_
            go_wp2
            rw [Exit.noGoto_ret]
            go_ret2
            exact ⟨_, rfl, by rw [HEND.out.2]; exact hownA.below (bl_d hb7), by (repeat (first | exact bl_refl | assumption | (apply bl_then; assumption) | refine bl_alloc ?_ _ | refine bl_drew ?_ | refine bl_drewN ?_ _))⟩
          · refine wpMid_run rfl (fun K hK => ?_)
            go_simp
            refine hK _ _ (by (repeat (first | exact bl_refl | assumption | (apply bl_then; assumption) | refine bl_alloc ?_ _ | refine bl_drew ?_ | refine bl_drewN ?_ _))) ?_
            clear hK K
            refine wpMid_run rfl (fun K hK => ?_)
            go_simp
            refine hK _ _ (by (repeat (first | exact bl_refl | assumption | (apply bl_then; assumption) | refine bl_alloc ?_ _ | refine bl_drew ?_ | refine bl_drewN ?_ _))) ?_
            clear hK K
            refine wpMid_run rfl (fun K hK => ?_)
            go_simp
            refine hK _ _ (by (repeat (first | exact bl_refl | assumption | (apply bl_then; assumption) | refine bl_alloc ?_ _ | refine bl_drew ?_ | refine bl_drewN ?_ _))) ?_
            clear hK K
            refine wpMid_take rfl ?_
            intro K hK
            go_big_quiet_op
            go_big_quiet_on
            refine wpMid_take rfl ?_
            intro K hK
            go_big_quiet_op
            go_big_quiet_on
            refine wpMid_take rfl ?_
            intro K hK
            go_big_quiet_op
            go_big_quiet_on
            refine wpMid_run rfl (fun K hK => ?_)
            go_simp
            refine hK _ _ (by (repeat (first | exact bl_refl | assumption | (apply bl_then; assumption) | refine bl_alloc ?_ _ | refine bl_drew ?_ | refine bl_drewN ?_ _))) ?_
            clear hK K
            refine wpMid_run rfl (fun K hK => ?_)
            go_simp
            refine hK _ _ (by (repeat (first | exact bl_refl | assumption | (apply bl_then; assumption) | refine bl_alloc ?_ _ | refine bl_drew ?_ | refine bl_drewN ?_ _))) ?_
            clear hK K
            refine wpMid_run rfl (fun K hK => ?_)
            go_simp
            refine hK _ _ (by (repeat (first | exact bl_refl | assumption | (apply bl_then; assumption) | refine bl_alloc ?_ _ | refine bl_drew ?_ | refine bl_drewN ?_ _))) ?_
            clear hK K
            refine wpMid_run rfl (fun K hK => ?_)
            go_simp
            refine hK _ _ (by (repeat (first | exact bl_refl | assumption | (apply bl_then; assumption) | refine bl_alloc ?_ _ | refine bl_drew ?_ | refine bl_drewN ?_ _))) ?_
            clear hK K
            refine wpMid_run rfl (fun K hK => ?_)
            go_simp
            refine hK _ _ (by (repeat (first | exact bl_refl | assumption | (apply bl_then; assumption) | refine bl_alloc ?_ _ | refine bl_drew ?_ | refine bl_drewN ?_ _))) ?_
            clear hK K
            refine wpMid_take rfl ?_
            intro K hK
            go_big_quiet_op
            go_big_quiet_on
            refine wpMid_take rfl ?_
            intro K hK
            go_big_quiet_op
            go_big_quiet_on
            refine wpMid_run rfl (fun K hK => ?_)
            go_simp
            refine hK _ _ (by (repeat (first | exact bl_refl | assumption | (apply bl_then; assumption) | refine bl_alloc ?_ _ | refine bl_drew ?_ | refine bl_drewN ?_ _))) ?_
            clear hK K
            refine wpMid_nil ?_
            go_wp2
            rw [Exit.noGoto_ret]
            go_ret2
            have hR : (((t : Int) + 1 == (mb6.length : Int)) : Bool) = R := by
              have h4 : cnt (l0, l1, l2, l3) = 1 := by
                have : ((cnt (l0, l1, l2, l3) : Nat) : Int) = 1 := by simpa using hq1
                omega
              have h5 := hLen.out
              have h6 := HT.out
              rw [Bool.eq_iff_iff, HRUN.out, hc1.out, beq_iff_eq]
              constructor
              · intro h
                exact ⟨HF'.out.1 (by trivial), h4, by omega⟩
              · rintro ⟨_, _, h⟩
                omega
            refine ⟨_, ?_, by rw [HEND.out.2]; exact hownA.below (bl_d hb7), by (repeat (first | exact bl_refl | assumption | (apply bl_then; assumption) | refine bl_alloc ?_ _ | refine bl_drew ?_ | refine bl_drewN ?_ _))⟩
            show Ending.returned (.tuple #[.slice o5 (t + 1 + 1) c5, .bool ((t : Int) + 1 == (mb6.length : Int))]) = _
            rw [hR]
end Go.Proofs.YtpompeancmonbaaGreat

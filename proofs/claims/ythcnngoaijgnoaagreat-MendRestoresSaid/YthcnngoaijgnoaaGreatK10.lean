/- The walk of the reference, walked. Conditions: bars within bounds, a knot that lacks one bar or three. -/
import Derived.Test.YthcnngoaijgnoaaGreatK09
namespace Go.Proofs.YthcnngoaijgnoaaGreat
open Go.RowKit Go.ChangeMaps
set_option maxHeartbeats 4000000
set_option maxRecDepth 100000

theorem other_arm (k : Knot) {a : Nat} (ha : a < 4) : otherK (armB k a) k = armK k a := by
  obtain ⟨x, y⟩ := k
  unfold otherK
  obtain rfl | rfl | rfl | rfl : a = 0 ∨ a = 1 ∨ a = 2 ∨ a = 3 := by omega
  all_goals simp only [armB, armK, lowK, uppK]
  · simp
    try omega
  · simp
  · rw [if_neg (by intro h; have := congrArg Prod.snd h; simp at this; omega)]
  · rw [if_neg (by intro h; have := congrArg Prod.snd h; simp at this; omega)]
theorem dart_near {k : Knot} {a : Nat} (ha : a < 4) (h : BarOk (armB k a)) : nearK k ∧ nearK (armK k a) := by
  obtain ⟨x, y⟩ := k
  obtain ⟨h1, h2, h3⟩ := h
  obtain rfl | rfl | rfl | rfl : a = 0 ∨ a = 1 ∨ a = 2 ∨ a = 3 := by omega
  all_goals
    simp only [armB] at h1 h2
    simp only [nearK, armK]
    omega
/-- the last of a knot's arms that are missing -/
def armZ (D : List Bar) (k : Knot) : Nat := if armB k 3 ∈ D then 3 else if armB k 2 ∈ D then 2 else if armB k 1 ∈ D then 1 else 0
def barTo (D : List Bar) (k : Knot) : Nat → Bar
  | 0 => (0, 0, 0)
  | i + 1 => if hasb D (armB k i) then armB k i else barTo D k i
theorem armZ_ok {D : List Bar} {k : Knot} (h : legsAt D k ≠ noLegs) : armZ D k < 4 ∧ armB k (armZ D k) ∈ D ∧ barTo D k 4 = armB k (armZ D k) := by
  obtain ⟨a, ha, hm⟩ := legs_arm.1 h
  simp only [barTo, hasb, decide_eq_true_eq]
  unfold armZ
  by_cases h3 : armB k 3 ∈ D
  · simp [h3]
  · by_cases h2 : armB k 2 ∈ D
    · simp [h3, h2]
    · by_cases h1 : armB k 1 ∈ D
      · simp [h3, h2, h1]
      · have h0 : armB k 0 ∈ D := by
          obtain rfl | rfl | rfl | rfl : a = 0 ∨ a = 1 ∨ a = 2 ∨ a = 3 := by omega
          · exact hm
          · exact absurd hm h1
          · exact absurd hm h2
          · exact absurd hm h3
        simp [h3, h2, h1, h0]
def rwalkL (D : List Bar) (k : Knot) : List Knot := k :: wk D D.length (k, armZ D k)
theorem rwalk_one {D : List Bar} {k : Knot} (h : cnt (legsAt D k) = 1) : rwalkL D k = walkL D k := by
  have : armZ D k = arm0 D k := by
    unfold armZ arm0
    have h' : cnt (decide (armB k 0 ∈ D), decide (armB k 1 ∈ D), decide (armB k 2 ∈ D), decide (armB k 3 ∈ D)) = 1 := h
    by_cases h0 : armB k 0 ∈ D <;> by_cases h1 : armB k 1 ∈ D <;> by_cases h2 : armB k 2 ∈ D <;> by_cases h3 : armB k 3 ∈ D <;> simp [h0, h1, h2, h3, cnt] at h' ⊢
  unfold rwalkL walkL
  rw [this]
theorem own_oneK (W : World) {base : Nat} (hb : base ≤ W.heap.size) (x y : Int) : OwK base (W.alloc (.cells #[.int .i64 x, .int .i64 y] 26)) (.slice (some ⟨W.heap.size, 0, none⟩) 1 1) [(x, y)] :=
  ⟨by simp [kc], .inr ⟨W.heap.size, 1, _, rfl, hb, heap_alloc_new W _, Nat.le_refl _, by simp [maxLen], by simp, by simp [kc]⟩⟩
theorem own_apart {w : World} {base g : Nat} {v a b : Value} {l : List Knot} (ho : OwK base w v l) (hl : 2 ≤ l.length) (hB : Blk w g 26 #[a, b]) : v.ownBlock ≠ some g := by
  rcases ho.2 with ⟨rfl, hn⟩ | ⟨g', cap, cur, rfl, _, hh, hnc, _, hcs, _⟩
  · omega
  · intro e
    obtain rfl : g' = g := by simpa [Value.ownBlock] using e
    unfold Blk at hB
    rw [hh] at hB
    have e2 : cur = #[a, b] := by injection (Option.some.inj hB)
    rw [e2] at hcs
    simp at hcs
    omega
theorem rwalk_any {v u : Value} (D : List Bar) (x y : Int) (w : World) (hD : SlB w u D) (hk : ∀ b ∈ D, BarOk b) (hlen : D.length ≤ 100000) (hne : legsAt D (x, y) ≠ noLegs) :
    Calls Tryz.prog 27 #[.agg #[v, u], .agg #[.int .i64 x, .int .i64 y]] w (RK w (rwalkL D (x, y))) := by
  have hDs := hD
  obtain ⟨A2, c2, rfl, hlc2, hcm2, hr2⟩ := hDs
  clear hr2
  obtain ⟨hz1, hz2, hz3⟩ := armZ_ok hne
  have hnk := (dart_near hz1 (hk _ hz2)).1
  have hx : -1000000 ≤ x ∧ x ≤ 1000000 := by unfold nearK at hnk; simp only at hnk; omega
  have hy : -1000000 ≤ y ∧ y ≤ 1000000 := by unfold nearK at hnk; simp only at hnk; omega
  have hT0 := (Blk.new w 24 #[v, .slice A2 D.length c2]).alloc (.cells #[.int .i64 x, .int .i64 y] 26)
  have hK0 := Blk.new1 w (.cells #[v, .slice A2 D.length c2] 24) 26 #[.int .i64 x, .int .i64 y]
  have fK := hK0.facts
  have hO0 := own_oneK ((w.alloc (.cells #[v, .slice A2 D.length c2] 24)).alloc (.cells #[.int .i64 x, .int .i64 y] 26)) (base := w.heap.size) (by simp; omega) x y
  have hT1 := hT0.alloc (.cells #[.int .i64 x, .int .i64 y] 26)
  have hK1 := hK0.alloc (.cells #[.int .i64 x, .int .i64 y] 26)
  have fK1 := hK1.facts
  have HZ := Lib.hid (⟨hz1, hz2, hz3⟩ : armZ D (x, y) < 4 ∧ armB (x, y) (armZ D (x, y)) ∈ D ∧ barTo D (x, y) 4 = armB (x, y) (armZ D (x, y)))
  have HK := Lib.hid hk
  clear hz1 hz2 hz3 hne hk hnk
  go_enter Tryz.func27, Tryz.ntmps27
  go_wp2_with (first | (go_at_call 88; refine (four_any x y hx hy _).mono ?_; rintro e w1 ⟨rfl, hb1⟩; replace hT1 := (hT1.below hb1).alloc (.cells #[.int .i64 0, .int .i64 0, .int .i64 0, .int .i64 0, .int .i64 0, .int .i64 0, .int .i64 0, .int .i64 0, .int .i64 0, .int .i64 0, .int .i64 0, .int .i64 0] 120); replace hK1 := (hK1.below hb1).alloc (.cells #[.int .i64 0, .int .i64 0, .int .i64 0, .int .i64 0, .int .i64 0, .int .i64 0, .int .i64 0, .int .i64 0, .int .i64 0, .int .i64 0, .int .i64 0, .int .i64 0] 120); replace hO0 := (hO0.below hb1).alloc (.cells #[.int .i64 0, .int .i64 0, .int .i64 0, .int .i64 0, .int .i64 0, .int .i64 0, .int .i64 0, .int .i64 0, .int .i64 0, .int .i64 0, .int .i64 0, .int .i64 0] 120); have hz1 := hb1.size; simp only [World.size_alloc] at hz1) |
    (refine wpList_store_blk (Blk.new _ _ _) rfl _ _ _ rfl rfl rfl (by rfl) (by kernel_rfl) (by kernel_rfl) ?_; intro w2 hF2 hc2; replace hT1 := hT1.chg hc2 (by simp; omega); replace hK1 := hK1.chg hc2 (by simp; omega)))
  simp only [World.size_alloc] at hO0
  have hz2 := hc2.size
  simp only [World.size_alloc] at hz2
  have hO2 := (hO0.chg1 hc2 (by simp [Value.ownBlock]; omega)).alloc (.cells #[.int .i64 0, .int .i64 0, .int .i64 0] 70)
  have hT2 := hT1.alloc (.cells #[.int .i64 0, .int .i64 0, .int .i64 0] 70)
  have hK2 := hK1.alloc (.cells #[.int .i64 0, .int .i64 0, .int .i64 0] 70)
  have hF3 := hF2.alloc (.cells #[.int .i64 0, .int .i64 0, .int .i64 0] 70)
  have hV2 := Blk.new w2 70 #[.int .i64 0, .int .i64 0, .int .i64 0]
  have hbw2 : Below w.heap.size w (w2.alloc (.cells #[.int .i64 0, .int .i64 0, .int .i64 0] 70)) := bl_alloc ((((Chg.of_below (S := [w1.heap.size]) (show Below w.heap.size w w1 by (repeat (first | exact bl_refl | assumption | (apply bl_then; assumption) | refine bl_alloc ?_ _ | refine bl_drew ?_ | refine bl_drewN ?_ _)))).alloc (.cells #[.int .i64 0, .int .i64 0, .int .i64 0, .int .i64 0, .int .i64 0, .int .i64 0, .int .i64 0, .int .i64 0, .int .i64 0, .int .i64 0, .int .i64 0, .int .i64 0] 120)).trans hc2).below (by simp; omega) (Nat.le_refl _)) _
  obtain ⟨g6, hg6⟩ : ∃ g, w1.heap.size = g := ⟨_, rfl⟩
  obtain ⟨g7, hg7⟩ : ∃ g, w2.heap.size = g := ⟨_, rfl⟩
  rw [hg6] at hF3 hz1 hz2 ⊢
  rw [hg7] at hV2 hz2 ⊢
  have hsz7 : g7 + 1 ≤ (w2.alloc (.cells #[.int .i64 0, .int .i64 0, .int .i64 0] 70)).heap.size := by simp [hg7]
  clear hO0 hT1 hK1 hF2 hc2 hT0 hK0 fK fK1
  go_loopw [8] (fun s8 wr => ∃ i : Nat, i ≤ 4 ∧ s8 = .int .i64 i ∧ Blk wr g7 70 #[.int .i64 (barTo D (x, y) i).1, .int .i64 (barTo D (x, y) i).2.1, .int .i64 (barTo D (x, y) i).2.2] ∧ Blk wr g6 120 (fourA x y) ∧ Blk wr w.heap.size 24 #[v, .slice A2 D.length c2] ∧ Blk wr (w.heap.size + 1) 26 #[.int .i64 x, .int .i64 y] ∧ OwK w.heap.size wr (.slice (some ⟨w.heap.size + 1 + 1, 0, none⟩) 1 1) [(x, y)] ∧ Below w.heap.size w wr) (fun i _ => 4 - (intOf i).toNat)
  case atStart => exact ⟨0, by omega, rfl, hV2, hF3, hT2, hK2, hO2, hbw2⟩
  case round =>
    clear hV2 hF3 hT2 hK2 hO2
    obtain ⟨i, hi, rfl, hV, hF, hT, hK', hO, hbw⟩ := hrel
    by_cases hlt : i < 4
    · have f4 := four_cells (x := x) (y := y) hF hlt
      have fF := hF.facts.2
      have fT := hT.facts
      have hDr := hD.below hbw
      obtain ⟨⟨px, py, ps⟩, hp⟩ : ∃ z, armB (x, y) i = z := ⟨_, rfl⟩
      rw [hp] at f4
      simp only at f4
      obtain ⟨g, hg⟩ : ∃ g, hasb D (px, py, ps) = g := ⟨_, rfl⟩
      have hh := fun X (hX : SlB X (.slice A2 D.length c2) D) => has_any D px py ps X hX
      rw [hg] at hh
      have HB : Hid (barTo D (x, y) (i + 1) = if g then (px, py, ps) else barTo D (x, y) i) := by
        unfold Hid
        rw [← hg, ← hp]; rfl
      have HP := Lib.hid hp
      clear hp hg
      cases g
      · go_wp2
        refine wp_region_ords [0, 1, 2, 3, 4] [] [5] (by kernel_rfl) (by kernel_rfl) (fun d _ _ _ _ h => by cases d <;> exact h) ?_
        simp only [List.map_cons, List.map_nil, List.getD_cons_zero, List.getD_cons_succ]
        repeat (go_big_quiet_step (fail))
        refine wpQuiet_nil ?_
        refine wpMid_nil ?_
        go_wp2_with (go_at_call 46; refine (hh _ hDr.drew).mono ?_; rintro e w4 ⟨rfl, hb4⟩)
        go_roundw
        case rel => exact ⟨i + 1, by omega, by go_num, by rw [HB.out]; exact hV.below (bl_d hb4), hF.below (bl_d hb4), hT.below (bl_d hb4), hK'.below (bl_d hb4), hO.below (bl_d hb4), by (repeat (first | exact bl_refl | assumption | (apply bl_then; assumption) | refine bl_alloc ?_ _ | refine bl_drew ?_ | refine bl_drewN ?_ _))⟩
        case measure => simp [intOf]; omega
      · go_wp2
        refine wp_region_ords [0, 1, 2, 3, 4] [] [5] (by kernel_rfl) (by kernel_rfl) (fun d _ _ _ _ h => by cases d <;> exact h) ?_
        simp only [List.map_cons, List.map_nil, List.getD_cons_zero, List.getD_cons_succ]
        repeat (go_big_quiet_step (fail))
        refine wpQuiet_nil ?_
        refine wpMid_nil ?_
        go_wp2_with (first | (go_at_call 46; refine (hh _ hDr.drew).mono ?_; rintro e w4 ⟨rfl, hb4⟩; have hV4 := hV.below (bl_d hb4); have hF4 := hF.below (bl_d hb4); have hT4 := hT.below (bl_d hb4); have hK4 := hK'.below (bl_d hb4); have hO4 := hO.below (bl_d hb4); have hbw4 : Below w.heap.size w w4 := (by (repeat (first | exact bl_refl | assumption | (apply bl_then; assumption) | refine bl_alloc ?_ _ | refine bl_drew ?_ | refine bl_drewN ?_ _))); have fF4 := hF4.facts.2; have f44 := four_cells (x := x) (y := y) hF4 hlt; rw [HP.out] at f44; simp only at f44) |
          (refine wpList_store_blk hV4 rfl _ _ _ rfl rfl rfl (by rfl) (by kernel_rfl) (by kernel_rfl) ?_; intro w9 hV9 hc9))
        go_roundw
        case rel => exact ⟨i + 1, by omega, by go_num, by rw [HB.out]; exact hV9, hF4.chg hc9 (by simp; omega), hT4.chg hc9 (by simp; omega), hK4.chg hc9 (by simp; omega), hO4.chg1 hc9 (by simp [Value.ownBlock]; omega), ((Chg.of_below (S := [g7]) hbw4).trans hc9).below (by simp; omega) (Nat.le_refl _)⟩
        case measure => simp [intOf]; omega
    · rw [show i = 4 by omega, HZ.out.2.2] at hV
      have fK := hK'.facts
      have fT := hT.facts
      have hg9 : g7 < wr.heap.size := hV.lt
      have hKb := Blk.new wr 26 #[.int .i64 x, .int .i64 y]
      have hV1 := hV.alloc (.cells #[.int .i64 x, .int .i64 y] 26)
      have hT1 := hT.alloc (.cells #[.int .i64 x, .int .i64 y] 26)
      have hO1 := hO.alloc (.cells #[.int .i64 x, .int .i64 y] 26)
      have hbw1 : Below w.heap.size w (wr.alloc (.cells #[.int .i64 x, .int .i64 y] 26)) := bl_alloc hbw _
      have H0 : Hid (rwalkL D (x, y) = [(x, y)] ++ wk D (D.length - 0) ((x, y), armZ D (x, y))) := rfl
      obtain ⟨g9, hg9e⟩ : ∃ g, wr.heap.size = g := ⟨_, rfl⟩
      rw [hg9e] at hKb hg9
      go_wp2
      go_loopw [5, 10] (fun s5 s10 wq => ∃ (i : Nat) (d : Dart) (acc : List Knot), i ≤ D.length ∧ s10 = .int .i64 i ∧ Hid (acc.length = i + 1) ∧ d.2 < 4 ∧ Hid (barD d ∈ D) ∧ Blk wq g7 70 #[.int .i64 (barD d).1, .int .i64 (barD d).2.1, .int .i64 (barD d).2.2] ∧ Blk wq g9 26 #[.int .i64 d.1.1, .int .i64 d.1.2] ∧ Blk wq w.heap.size 24 #[v, .slice A2 D.length c2] ∧ OwK w.heap.size wq s5 acc ∧ s5.ownBlock ≠ some g9 ∧ Hid (rwalkL D (x, y) = acc ++ wk D (D.length - i) d) ∧ Below w.heap.size w wq) (fun _ i _ => D.length - (intOf i).toNat)
      case atStart => exact ⟨0, ((x, y), armZ D (x, y)), [(x, y)], Nat.zero_le _, rfl, rfl, HZ.out.1, HZ.out.2.1, hV1, hKb, hT1, hO1, by simp [Value.ownBlock]; omega, H0, hbw1⟩
      case round =>
        clear hV hF hT hK' hO hbw hKb hV1 hT1 hO1 hbw1 fK fT
        obtain ⟨n, ⟨⟨kx, ky⟩, a⟩, acc, hn, rfl, HAL, ha, HBD, hV, hKb, hT, hO, hOg, H, hbw⟩ := hrel
        simp only at ha hKb
        have fT := hT.facts
        by_cases hlt : n < D.length
        · have hnr := dart_near ha (HK.out _ HBD.out)
          have hoa := other_arm (kx, ky) ha
          have hbrv := armB_rev (kx, ky) ha
          have hstp := fun he => step_ok (e := ((kx, ky), a)) ha HBD.out he
          obtain ⟨⟨px, py, ps⟩, hp⟩ : ∃ z, armB (kx, ky) a = z := ⟨_, rfl⟩
          obtain ⟨⟨mx, my⟩, hm⟩ : ∃ z, armK (kx, ky) a = z := ⟨_, rfl⟩
          have hbo : BarOk (px, py, ps) := by rw [← hp]; exact HK.out _ HBD.out
          have hpd : barD ((kx, ky), a) = (px, py, ps) := hp
          rw [hpd] at hV
          rw [hp, hm] at hoa
          rw [hm, hp] at hbrv
          rw [hm] at hnr
          obtain ⟨q1, q2, q3⟩ := hbo
          simp only at q1 q2 q3
          have hot : ∀ W, Calls Tryz.prog 89 #[.agg #[.int .i64 px, .int .i64 py, .int .i64 ps], .agg #[.int .i64 kx, .int .i64 ky]] W (RV W (.agg #[.int .i64 mx, .int .i64 my])) := fun W => by
            have := other_any px py ps kx ky (by omega) (by omega) (by omega) W
            rw [hoa] at this
            exact this
          have hnm := hnr.2
          unfold nearK at hnm
          simp only at hnm
          have fV := hV.facts
          have fKb := hKb.facts
          have hAL := HAL.out
          have hal2 : acc.length ≤ 1000000 := by omega
          clear hAL
          have hms := fun (v : Value) X (hX : SlB X (.slice A2 D.length c2) D) => missing_any (v := v) D mx my X hX (by omega) (by omega)
          have HM : Hid (armK (kx, ky) a = (mx, my)) := hm
          have HP : Hid (armB (kx, ky) a = (px, py, ps)) := hp
          clear hp hm hnr
          go_wp2_with (first | (go_at_call 89; refine (hot _).mono ?_; rintro e w4 ⟨rfl, hb4⟩; have hKb4 := hKb.below hb4; have hV4 := hV.below hb4; have hT4 := hT.below hb4; have hO4 := hO.below hb4; have hbw4 : Below w.heap.size w w4 := bl_then hb4 hbw) |
            (refine wpList_store_blk hKb4 rfl _ _ _ rfl rfl rfl (by rfl) (by kernel_rfl) (by kernel_rfl) ?_; intro w5 hK5 hc5; have fK5 := hK5.facts; have hV5 := hV4.chg hc5 (by simp; omega); have hT5 := hT4.chg hc5 (by simp; omega); have hO5 := hO4.chg1 hc5 hOg; have hbw5 : Below w.heap.size w w5 := ((Chg.of_below (S := [g9]) hbw4).trans hc5).below (by simp; omega) (Nat.le_refl _)) |
            (at_builtin; refine wpList_appK hO5 rfl _ _ rfl rfl rfl hal2 hbw5.size ?_; intro v6 w6 hO6 hgr6; have hK6 := (hK5.alloc (.cells #[.int .i64 mx, .int .i64 my] 26)).grown hgr6 (Ne.symm hOg); have hV6 := (hV5.alloc (.cells #[.int .i64 mx, .int .i64 my] 26)).grown hgr6 ((hO5.alloc (.cells #[.int .i64 mx, .int .i64 my] 26)).ne_blk (hV5.alloc (.cells #[.int .i64 mx, .int .i64 my] 26)) (by decide)); have hT6 := (hT5.alloc (.cells #[.int .i64 mx, .int .i64 my] 26)).grown hgr6 ((hO5.alloc (.cells #[.int .i64 mx, .int .i64 my] 26)).ne_blk (hT5.alloc (.cells #[.int .i64 mx, .int .i64 my] 26)) (by decide)); have fK6 := hK6.facts; have fT6 := hT6.facts; have fV6 := hV6.facts; have hbw6 := own_step hO5 hgr6 (bl_alloc hbw5 _)))
          have hD6 := hD.below hbw6
          obtain ⟨q, hq⟩ : ∃ q, oddL (legsAt D (mx, my)) = q := ⟨_, rfl⟩
          have hodd : (((missN D (mx, my) : Nat) : Int) % 2 == 1) = q := by
            rw [← hq]
            unfold oddL missN
            rw [Bool.eq_iff_iff]
            simp
            omega
          refine (hms _ _ hD6).mono ?_
          rintro e w7 ⟨rfl, hb7⟩
          have hK7 := hK6.below hb7
          have hV7 := hV6.below hb7
          have hT7 := hT6.below hb7
          have hO7 := hO6.below hb7
          have hbw7 : Below w.heap.size w w7 := bl_then hb7 hbw6
          have hOg7 := own_apart hO7 (by rw [List.length_append, HAL.out]; simp) hK7
          have fK7 := hK7.facts
          have fV7 := hV7.facts
          have fT7 := hT7.facts
          obtain ⟨m, hm⟩ : ∃ m, D.length - n = m + 1 := ⟨D.length - n - 1, by omega⟩
          have HW : Hid (rwalkL D (x, y) = (acc ++ [(mx, my)]) ++ if q then [] else wk D m (nxt D ((kx, ky), a))) := by
            unfold Hid
            rw [H.out, hm, List.append_assoc]
            show _ ++ (armK (kx, ky) a :: if oddL (legsAt D (armK (kx, ky) a)) then [] else wk D m (nxt D ((kx, ky), a))) = _
            rw [HM.out, hq]; rfl
          cases q
          · obtain ⟨s1, s2, s3, s4⟩ := hstp (by show oddL (legsAt D (armK (kx, ky) a)) = false; rw [HM.out]; exact hq)
            have hab : armB (mx, my) (3 - a) = (px, py, ps) := hbrv
            have hnx := fun (v : Value) X (hX : SlB X (.slice A2 D.length c2) D) => rnext_any (v := v) D mx my (3 - a) (by omega) X hX (by omega) (by omega)
            have hnb : barD (nxt D ((kx, ky), a)) = armB (mx, my) (onw (legsAt D (mx, my)) (3 - a)) := by
              show armB (armK (kx, ky) a) (onw (legsAt D (armK (kx, ky) a)) (3 - a)) = _
              rw [HM.out]
            have hnk : (nxt D ((kx, ky), a)).1 = (mx, my) := HM.out
            rw [hab, ← hnb] at hnx
            obtain ⟨d2, he⟩ : ∃ e, nxt D ((kx, ky), a) = e := ⟨_, rfl⟩
            rw [he] at hnx s1 s2 hnk HW
            obtain ⟨⟨nx, ny, ns⟩, hne⟩ : ∃ z, barD d2 = z := ⟨_, rfl⟩
            rw [hne] at hnx
            simp only at hnx
            have HN2 := Lib.hid hne
            have HS2 := Lib.hid s2
            have HNK := Lib.hid hnk
            have HM1 := Lib.hid hm
            clear hne s2 hnk hnb he hab s3 s4 hstp hbrv hoa hm hq hot hpd
            go_wp2_with (first | (go_at_call 90; refine (hnx _ _ (hD.below hbw7)).mono ?_; rintro e w8 ⟨rfl, hb8⟩; have hK8 := hK7.below hb8; have hV8 := hV7.below hb8; have hT8 := hT7.below hb8; have hO8 := hO7.below hb8; have hbw8 : Below w.heap.size w w8 := bl_then hb8 hbw7) |
              (refine wpList_store_blk hV8 rfl _ _ _ rfl rfl rfl (by rfl) (by kernel_rfl) (by kernel_rfl) ?_; intro w9 hV9 hc9))
            have hOV : v6.ownBlock ≠ some g7 := fun h => hO8.ne_blk hV8 (by decide) h.symm
            go_roundw
            case rel => exact ⟨n + 1, d2, acc ++ [(mx, my)], by omega, by go_num, by unfold Hid; rw [List.length_append, HAL.out]; rfl, s1, HS2.out, by rw [HN2.out]; exact hV9, by rw [HNK.out]; exact hK8.chg hc9 (by simp; omega), hT8.chg hc9 (by simp; omega), hO8.chg1 hc9 hOV, hOg7, by rw [show D.length - (n + 1) = m by have := HM1.out; omega]; exact HW, ((Chg.of_below (S := [g7]) hbw8).trans hc9).below (by simp; omega) (Nat.le_refl _)⟩
            case measure => simp [intOf]; omega
          · have HE : Hid (rwalkL D (x, y) = acc ++ [(mx, my)]) := by unfold Hid; rw [HW.out]; simp
            clear hm
            obtain ⟨A6, c6, rfl⟩ := hO7.shape
            go_wp2
            go_ret
            rw [List.length_append, List.length_singleton] at hO7
            exact ⟨_, rfl, by rw [HE.out]; exact hO7, hbw7⟩
        · have hnl : n = D.length := by omega
          have HE : Hid (rwalkL D (x, y) = acc) := by unfold Hid; rw [H.out, hnl, Nat.sub_self]; simp [wk]
          obtain ⟨A5, c5, rfl⟩ := hO.shape
          go_wp2
          go_ret
          exact ⟨_, rfl, by rw [HE.out]; exact hO, hbw⟩
end Go.Proofs.YthcnngoaijgnoaaGreat

/- A bar put into a list in its place, of the reference, walked; lists of bars together. Conditions: the slices read as lists. -/
namespace Go.Proofs.YthcnngoaijgnoaaGreat
open Go.RowKit Go.ChangeMaps
set_option maxHeartbeats 4000000
set_option maxRecDepth 100000

theorem earlier_any (x y s x' y' s' : Int) (w : World) :
    Calls Tryz.prog 121 #[.agg #[.int .i64 x, .int .i64 y, .int .i64 s], .agg #[.int .i64 x', .int .i64 y', .int .i64 s']] w (RV w (.bool (barLt x y s x' y' s'))) := by
  go_enter Tryz.func121, Tryz.ntmps121
  go_wp2
  all_goals go_ret
  all_goals refine ⟨ret_bool ?_, by (repeat (first | exact bl_refl | assumption | (apply bl_then; assumption) | refine bl_alloc ?_ _ | refine bl_drew ?_ | refine bl_drewN ?_ _))⟩
  all_goals
    unfold barLt
    rw [Bool.eq_iff_iff]
    simp_all
    try omega
section
variable {α : Type} {enc : α → List Value} {sz bytes : Nat} {P : Program} {t e : TypeId} {w : World}
theorem op_app {o : Oper} {a : Act} {K : Act → World → Prop} {Q : Exit → Act → World → Prop} (E : Elem P t e sz bytes) (henc : ∀ x, (enc x).length = sz) (hone : ∀ x, ∀ u ∈ enc x, u.oneCell' = true) (s x : Operand)
    (ho : o.op = .call { callee := .builtin .append, args := #[s, x], argTypes := #[t, t] }) (base : Nat) (v u : Value) (l r : List α) (hs : a.eval s = v) (hx : a.eval x = u) (hown : Own enc sz base e w v l) (hu : Sl enc sz w u r)
    (h63 : l.length + r.length ≤ maxLen) (hb : (l.length + r.length) * bytes ≤ 140737488355328) (hbase : base ≤ w.heap.size)
    (h : ∀ v' w', Own enc sz base e w' v' (l ++ r) → w.grownBy w' v.ownBlock → K (a.put o.dst v') w') : o.wp P a w K Q := by
  obtain ⟨v', w', hr, h2, h3⟩ := run_app E henc hone base o.type v u l r hown hu h63 hb hbase
  unfold Oper.wp
  simp [execOp, ho, resolve, invoke, builtin, hs, hx, hr, Result.andThen]
  exact h v' w' h2 h3
end
theorem opB_app {o : Oper} {a : Act} {K : Act → World → Prop} {Q : Exit → Act → World → Prop} {w : World} {base : Nat} {v u : Value} {l r : List Bar} (hown : OwB base w v l) (hu : SlB w u r) (s x : Operand)
    (ho : o.op = .call { callee := .builtin .append, args := #[s, x], argTypes := #[22, 22] }) (hs : a.eval s = v) (hx : a.eval x = u) (hlen : l.length + r.length ≤ 1000000) (hbase : base ≤ w.heap.size)
    (h : ∀ v' w', OwB base w' v' (l ++ r) → w.grownBy w' v.ownBlock → K (a.put o.dst v') w') : o.wp Tryz.prog a w K Q :=
  op_app bar_elem bc_len bc_one s x ho base v u l r hs hx hown hu (by simp [maxLen]; omega) (by omega) hbase h
theorem opK_app {o : Oper} {a : Act} {K : Act → World → Prop} {Q : Exit → Act → World → Prop} {w : World} {base : Nat} {v u : Value} {l r : List Knot} (hown : OwK base w v l) (hu : SlK w u r) (s x : Operand)
    (ho : o.op = .call { callee := .builtin .append, args := #[s, x], argTypes := #[34, 34] }) (hs : a.eval s = v) (hx : a.eval x = u) (hlen : l.length + r.length ≤ 1000000) (hbase : base ≤ w.heap.size)
    (h : ∀ v' w', OwK base w' v' (l ++ r) → w.grownBy w' v.ownBlock → K (a.put o.dst v') w') : o.wp Tryz.prog a w K Q :=
  op_app knot_elem kc_len kc_one s x ho base v u l r hs hx hown hu (by simp [maxLen]; omega) (by omega) hbase h

theorem Blk.one_bar {w : World} {g : Nat} {x y s : Int} (h : Blk w g 70 #[.int .i64 x, .int .i64 y, .int .i64 s]) : SlB w (.slice (some ⟨g, 0, none⟩) 1 1) [(x, y, s)] := by
  refine ⟨_, 1, rfl, by simp, by simp [maxLen], fun i b hb => ?_⟩
  match i, hb with
  | 0, hb =>
    obtain rfl : (x, y, s) = b := by simpa using hb
    refine ⟨_, 0, rfl, h.lt, fun j u hj => ?_⟩
    rw [h.cell]
    simpa [bc] using hj
theorem Blk.one_knot {w : World} {g : Nat} {x y : Int} (h : Blk w g 26 #[.int .i64 x, .int .i64 y]) : SlK w (.slice (some ⟨g, 0, none⟩) 1 1) [(x, y)] := by
  refine ⟨_, 1, rfl, by simp, by simp [maxLen], fun i b hb => ?_⟩
  match i, hb with
  | 0, hb =>
    obtain rfl : (x, y) = b := by simpa using hb
    refine ⟨_, 0, rfl, h.lt, fun j u hj => ?_⟩
    rw [h.cell]
    simpa [kc] using hj
section
variable {α : Type} {enc : α → List Value} {sz n c : Nat} {w : World} {A : Option Addr} {l : List α}
theorem sl_pre (h : Rd enc sz w A l) {k : Nat} (hk : k ≤ l.length) (hkc : k ≤ c) (hc : c ≤ maxLen) : Sl enc sz w (.slice A k c) (l.take k) :=
  ⟨A, c, by rw [List.length_take, Nat.min_eq_left hk], by rw [List.length_take, Nat.min_eq_left hk]; exact hkc, hc, fun i x hx => h i x (by
    rw [List.getElem?_take] at hx
    split at hx
    · exact hx
    · cases hx)⟩
theorem sl_post (h : Rd enc sz w A l) (hlc : l.length ≤ c) {k : Nat} (hk : k ≤ l.length) (hc : c ≤ maxLen) : Sl enc sz w (.slice (if c = k then A else Option.map (fun x => x.add (k * sz)) A) (l.length - k) (c - k)) (l.drop k) := by
  refine ⟨_, _, by rw [List.length_drop], by rw [List.length_drop]; omega, by omega, fun i x hx => ?_⟩
  rw [List.getElem?_drop] at hx
  have hlt := (List.getElem?_eq_some_iff.1 hx).1
  obtain ⟨b, off, rfl, hb, hc2⟩ := h (k + i) x hx
  rw [if_neg (by omega)]
  refine ⟨b, off + k * sz, ?_, hb, fun j u hu => ?_⟩
  · simp only [Option.map_some, Addr.add]
    split
    · rename_i h0; rw [h0, Nat.add_zero]
    · rfl
  · have := hc2 j u hu
    rwa [show off + (k + i) * sz + j = off + k * sz + i * sz + j by rw [Nat.add_mul]; omega] at this
theorem sl_postS {b off : Nat} (h : Rd enc sz w (some ⟨b, off, none⟩) l) (hlc : l.length ≤ c) {k : Nat} (hc : c ≤ maxLen) : Sl enc sz w (.slice (some ⟨b, off + k * sz, none⟩) (l.length - k) (c - k)) (l.drop k) := by
  refine ⟨_, _, by rw [List.length_drop], by rw [List.length_drop]; omega, by omega, fun i x hx => ?_⟩
  rw [List.getElem?_drop] at hx
  obtain ⟨b', off', e', hb, hc2⟩ := h (k + i) x hx
  obtain ⟨rfl, rfl⟩ : b = b' ∧ off = off' := by simpa using e'
  refine ⟨b, off + k * sz, rfl, hb, fun j u hu => ?_⟩
  have := hc2 j u hu
  rwa [show off + (k + i) * sz + j = off + k * sz + i * sz + j by rw [Nat.add_mul]; omega] at this
end

/-- a bar put into a list in its place -/
def insB : List Bar → Bar → List Bar
  | [], b => [b]
  | x :: r, b => if barLt x.1 x.2.1 x.2.2 b.1 b.2.1 b.2.2 then x :: insB r b else b :: x :: r
theorem insB_drop {l : List Bar} {b : Bar} {k : Nat} (hk : k < l.length) : insB (l.drop k) b = if barLt l[k].1 l[k].2.1 l[k].2.2 b.1 b.2.1 b.2.2 then l[k] :: insB (l.drop (k + 1)) b else b :: l.drop k := by
  rw [List.drop_eq_getElem_cons hk, insB]
theorem rwith_any {v : Value} (l : List Bar) (x y s : Int) (w : World) (h : SlB w v l) (hlen : l.length ≤ 100000) : Calls Tryz.prog 73 #[v, .agg #[.int .i64 x, .int .i64 y, .int .i64 s]] w (RB w (insB l (x, y, s))) := by
  obtain ⟨A, c, rfl, hlc, hcm, h⟩ := h
  have hB := Blk.new w 70 #[.int .i64 x, .int .i64 y, .int .i64 s]
  go_enter Tryz.func73, Tryz.ntmps73
  go_wp2
  go_loopw [5] (fun i wr => ∃ k : Nat, k ≤ l.length ∧ i = .int .i64 k ∧ Hid (insB l (x, y, s) = l.take k ++ insB (l.drop k) (x, y, s)) ∧ Blk wr w.heap.size 70 #[.int .i64 x, .int .i64 y, .int .i64 s] ∧ Below w.heap.size w wr) (fun i _ => l.length - (intOf i).toNat)
  case atStart => exact ⟨0, Nat.zero_le _, rfl, by simp [Hid], hB, by (repeat (first | exact bl_refl | assumption | (apply bl_then; assumption) | refine bl_alloc ?_ _ | refine bl_drew ?_ | refine bl_drewN ?_ _))⟩
  case round =>
    clear hB
    obtain ⟨k, hk, rfl, H, hBr, hbw⟩ := hrel
    have fB := hBr.facts
    have hr := h.below hbw
    have hkc : k ≤ c := by omega
    by_cases hq : ∃ hlt : k < l.length, barLt l[k].1 l[k].2.1 l[k].2.2 x y s = true
    · obtain ⟨hlt, hg⟩ := hq
      obtain ⟨b, off, rfl, hb, e0, e1, e2⟩ := hr.bar hlt
      have HD : Hid (insB (l.drop k) (x, y, s) = l[k] :: insB (l.drop (k + 1)) (x, y, s)) := by unfold Hid; rw [insB_drop hlt, hg]; rfl
      have he := fun W => earlier_any l[k].1 l[k].2.1 l[k].2.2 x y s W
      rw [hg] at he
      go_wp2
      refine wp_region_ords [0, 1, 2, 3, 4, 5, 6, 7, 8, 9] [] [10, 11] (by kernel_rfl) (by kernel_rfl) (fun d _ _ _ _ h => by cases d <;> exact h) ?_
      simp only [List.map_cons, List.map_nil, List.getD_cons_zero, List.getD_cons_succ]
      repeat (go_big_quiet_step (fail))
      refine wpQuiet_nil ?_
      refine wpMid_nil ?_
      go_wp2_with (go_at_call 121; refine (he _).mono ?_; rintro e w4 ⟨rfl, hb4⟩)
      go_roundw
      case rel => exact ⟨k + 1, by omega, by go_num, by unfold Hid; rw [H.out, HD.out, List.take_succ_eq_append_getElem hlt, List.append_assoc]; rfl, hBr.below (by (repeat (first | exact bl_refl | assumption | (apply bl_then; assumption) | refine bl_alloc ?_ _ | refine bl_drew ?_ | refine bl_drewN ?_ _))), by (repeat (first | exact bl_refl | assumption | (apply bl_then; assumption) | refine bl_alloc ?_ _ | refine bl_drew ?_ | refine bl_drewN ?_ _))⟩
      case measure => simp [intOf]; omega
    · have HE : Hid (insB l (x, y, s) = (l.take k ++ [(x, y, s)]) ++ l.drop k) := by
        unfold Hid
        rw [H.out, List.append_assoc]
        congr 1
        by_cases hlt : k < l.length
        · rw [insB_drop hlt, if_neg (fun hg => hq ⟨hlt, hg⟩)]; rfl
        · rw [List.drop_eq_nil_of_le (by omega)]; rfl
      by_cases hlt : k < l.length
      · have hg : barLt l[k].1 l[k].2.1 l[k].2.2 x y s = false := by
          cases hg : barLt l[k].1 l[k].2.1 l[k].2.2 x y s
          · rfl
          · exact absurd ⟨hlt, hg⟩ hq
        obtain ⟨b, off, rfl, hb, e0, e1, e2⟩ := hr.bar hlt
        have he := fun W => earlier_any l[k].1 l[k].2.1 l[k].2.2 x y s W
        rw [hg] at he
        clear hq H
        go_wp2
        refine wp_region_ords [0, 1, 2, 3, 4, 5, 6, 7, 8, 9] [] [10, 11] (by kernel_rfl) (by kernel_rfl) (fun d _ _ _ _ h => by cases d <;> exact h) ?_
        simp only [List.map_cons, List.map_nil, List.getD_cons_zero, List.getD_cons_succ]
        repeat (go_big_quiet_step (fail))
        refine wpQuiet_nil ?_
        refine wpMid_nil ?_
        go_wp2_with (go_at_call 121; refine (he _).mono ?_; rintro e w4 ⟨rfl, hb4⟩)
        replace hb4 : Below wr.heap.size wr w4 := by (repeat (first | exact bl_refl | assumption | (apply bl_then; assumption) | refine bl_alloc ?_ _ | refine bl_drew ?_ | refine bl_drewN ?_ _))
        have hB4 := hBr.below hb4
        have f4 := hB4.facts
        have hT := (sl_pre hr hk hkc hcm).below hb4
        have hD := (sl_postS (k := k) hr hlc hcm).below hb4
        refine wp_region_tree [1, 2, 3, 5, 8, 9, 10] (.alt (.br 0 (.alt (.br 4 (.alt (.br 6 (.alt (.br 7 (.fin) (.stop))) (.stop))) (.br 6 (.alt (.br 4 (.alt (.br 7 (.fin) (.stop))) (.stop))) (.stop)))) (.br 6 (.alt (.br 0 (.alt (.br 4 (.alt (.br 7 (.fin) (.stop))) (.stop))) (.stop))) (.stop)))) [11, 12] (by kernel_rfl) (by kernel_rfl) (fun d _ _ _ _ h => by cases d <;> exact h) ?_
        simp only [List.map_cons, List.map_nil, List.getD_cons_zero, List.getD_cons_succ]
        repeat (go_big_quiet_step (fail))
        refine wpQuiet_nil ?_
        refine wpTree_alt (wpTree_br rfl rfl ?_ (wpTree_br rfl rfl ?_ wpTree_stop))
        have own1 := (Own.empty bc 3 w4.drew 70).base_mono (show w4.heap.size ≤ (w4.drew).heap.size by simp <;> omega)
        intro K hK
        go_simp
        refine hK _ _ (by (repeat (first | exact bl_refl | assumption | (apply bl_then; assumption) | refine bl_alloc ?_ _ | refine bl_drew ?_ | refine bl_drewN ?_ _))) ?_
        clear hK K
        refine wpTree_alt (wpTree_br rfl rfl ?_ (wpTree_br rfl rfl ?_ wpTree_stop))
        intro K hK
        simp only [Array.getD_eq_getD_getElem?, List.getElem?_toArray, List.getElem?_cons_succ, List.getElem?_cons_zero, Option.getD_some]
        refine opB_app own1 (hT.below (by (repeat (first | exact bl_refl | assumption | (apply bl_then; assumption) | refine bl_alloc ?_ _ | refine bl_drew ?_ | refine bl_drewN ?_ _)))) _ _ rfl rfl rfl (by simp; omega) (Below.size (by (repeat (first | exact bl_refl | assumption | (apply bl_then; assumption) | refine bl_alloc ?_ _ | refine bl_drew ?_ | refine bl_drewN ?_ _)))) ?_
        intro v6 w6 own6 hg6
        have hb6 := own_step own1 hg6 (by (repeat (first | exact bl_refl | assumption | (apply bl_then; assumption) | refine bl_alloc ?_ _ | refine bl_drew ?_ | refine bl_drewN ?_ _)))
        refine hK _ _ hb6 ?_
        clear hK K
        have one1 := Blk.new w6 70 #[.int .i64 x, .int .i64 y, .int .i64 s]
        refine wpTree_alt (wpTree_br rfl rfl ?_ wpTree_stop)
        intro K hK
        go_simp
        refine hK _ _ (by (repeat (first | exact bl_refl | assumption | (apply bl_then; assumption) | refine bl_alloc ?_ _ | refine bl_drew ?_ | refine bl_drewN ?_ _))) ?_
        clear hK K
        refine wpTree_alt (wpTree_br rfl rfl ?_ wpTree_stop)
        intro K hK
        simp only [Array.getD_eq_getD_getElem?, List.getElem?_toArray, List.getElem?_cons_succ, List.getElem?_cons_zero, Option.getD_some]
        refine opB_app (own6.alloc (.cells #[.int .i64 x, .int .i64 y, .int .i64 s] 70)) one1.one_bar _ _ rfl rfl rfl (by simp; omega) (Below.size (by (repeat (first | exact bl_refl | assumption | (apply bl_then; assumption) | refine bl_alloc ?_ _ | refine bl_drew ?_ | refine bl_drewN ?_ _)))) ?_
        intro v9 w9 own9 hg9
        have hb9 := own_step (own6.alloc (.cells #[.int .i64 x, .int .i64 y, .int .i64 s] 70)) hg9 (by (repeat (first | exact bl_refl | assumption | (apply bl_then; assumption) | refine bl_alloc ?_ _ | refine bl_drew ?_ | refine bl_drewN ?_ _)))
        refine hK _ _ hb9 ?_
        clear hK K
        refine wpTree_fin ?_
        rotate_left
        have one1 := Blk.new (w4.drew.alloc (.cells #[] 70)) 70 #[.int .i64 x, .int .i64 y, .int .i64 s]
        simp only [World.size_alloc] at one1
        intro K hK
        go_simp
        refine hK _ _ (by (repeat (first | exact bl_refl | assumption | (apply bl_then; assumption) | refine bl_alloc ?_ _ | refine bl_drew ?_ | refine bl_drewN ?_ _))) ?_
        clear hK K
        refine wpTree_alt (wpTree_br rfl rfl ?_ wpTree_stop)
        intro K hK
        simp only [Array.getD_eq_getD_getElem?, List.getElem?_toArray, List.getElem?_cons_succ, List.getElem?_cons_zero, Option.getD_some]
        refine opB_app (own1.alloc (.cells #[.int .i64 x, .int .i64 y, .int .i64 s] 70)) (hT.below (by (repeat (first | exact bl_refl | assumption | (apply bl_then; assumption) | refine bl_alloc ?_ _ | refine bl_drew ?_ | refine bl_drewN ?_ _)))) _ _ rfl rfl rfl (by simp; omega) (Below.size (by (repeat (first | exact bl_refl | assumption | (apply bl_then; assumption) | refine bl_alloc ?_ _ | refine bl_drew ?_ | refine bl_drewN ?_ _)))) ?_
        intro v6 w6 own6 hg6
        have hb6 := own_step (own1.alloc (.cells #[.int .i64 x, .int .i64 y, .int .i64 s] 70)) hg6 (by (repeat (first | exact bl_refl | assumption | (apply bl_then; assumption) | refine bl_alloc ?_ _ | refine bl_drew ?_ | refine bl_drewN ?_ _)))
        refine hK _ _ hb6 ?_
        clear hK K
        refine wpTree_alt (wpTree_br rfl rfl ?_ wpTree_stop)
        intro K hK
        simp only [Array.getD_eq_getD_getElem?, List.getElem?_toArray, List.getElem?_cons_succ, List.getElem?_cons_zero, Option.getD_some]
        refine opB_app own6 (one1.grown hg6 (by simp [Value.ownBlock])).one_bar _ _ rfl rfl rfl (by simp; omega) (Below.size (by (repeat (first | exact bl_refl | assumption | (apply bl_then; assumption) | refine bl_alloc ?_ _ | refine bl_drew ?_ | refine bl_drewN ?_ _)))) ?_
        intro v9 w9 own9 hg9
        have hb9 := own_step own6 hg9 (by (repeat (first | exact bl_refl | assumption | (apply bl_then; assumption) | refine bl_alloc ?_ _ | refine bl_drew ?_ | refine bl_drewN ?_ _)))
        refine hK _ _ hb9 ?_
        clear hK K
        refine wpTree_fin ?_
        rotate_left
        have one1 := Blk.new w4.drew 70 #[.int .i64 x, .int .i64 y, .int .i64 s]
        intro K hK
        go_simp
        refine hK _ _ (by (repeat (first | exact bl_refl | assumption | (apply bl_then; assumption) | refine bl_alloc ?_ _ | refine bl_drew ?_ | refine bl_drewN ?_ _))) ?_
        clear hK K
        refine wpTree_alt (wpTree_br rfl rfl ?_ wpTree_stop)
        have own1 := (Own.empty bc 3 (w4.drew.alloc (.cells #[.int .i64 x, .int .i64 y, .int .i64 s] 70)) 70).base_mono (show w4.heap.size ≤ ((w4.drew.alloc (.cells #[.int .i64 x, .int .i64 y, .int .i64 s] 70))).heap.size by simp <;> omega)
        simp only [World.size_alloc] at own1
        intro K hK
        go_simp
        refine hK _ _ (by (repeat (first | exact bl_refl | assumption | (apply bl_then; assumption) | refine bl_alloc ?_ _ | refine bl_drew ?_ | refine bl_drewN ?_ _))) ?_
        clear hK K
        refine wpTree_alt (wpTree_br rfl rfl ?_ wpTree_stop)
        intro K hK
        simp only [Array.getD_eq_getD_getElem?, List.getElem?_toArray, List.getElem?_cons_succ, List.getElem?_cons_zero, Option.getD_some]
        refine opB_app own1 (hT.below (by (repeat (first | exact bl_refl | assumption | (apply bl_then; assumption) | refine bl_alloc ?_ _ | refine bl_drew ?_ | refine bl_drewN ?_ _)))) _ _ rfl rfl rfl (by simp; omega) (Below.size (by (repeat (first | exact bl_refl | assumption | (apply bl_then; assumption) | refine bl_alloc ?_ _ | refine bl_drew ?_ | refine bl_drewN ?_ _)))) ?_
        intro v6 w6 own6 hg6
        have hb6 := own_step own1 hg6 (by (repeat (first | exact bl_refl | assumption | (apply bl_then; assumption) | refine bl_alloc ?_ _ | refine bl_drew ?_ | refine bl_drewN ?_ _)))
        refine hK _ _ hb6 ?_
        clear hK K
        refine wpTree_alt (wpTree_br rfl rfl ?_ wpTree_stop)
        intro K hK
        simp only [Array.getD_eq_getD_getElem?, List.getElem?_toArray, List.getElem?_cons_succ, List.getElem?_cons_zero, Option.getD_some]
        refine opB_app own6 ((one1.alloc (.cells #[] 70)).grown hg6 (by simp [Value.ownBlock])).one_bar _ _ rfl rfl rfl (by simp; omega) (Below.size (by (repeat (first | exact bl_refl | assumption | (apply bl_then; assumption) | refine bl_alloc ?_ _ | refine bl_drew ?_ | refine bl_drewN ?_ _)))) ?_
        intro v9 w9 own9 hg9
        have hb9 := own_step own6 hg9 (by (repeat (first | exact bl_refl | assumption | (apply bl_then; assumption) | refine bl_alloc ?_ _ | refine bl_drew ?_ | refine bl_drewN ?_ _)))
        refine hK _ _ hb9 ?_
        clear hK K
        refine wpTree_fin ?_
        rotate_left
        all_goals
          refine wpList_appBS own9 (hD.below hb9) rfl _ _ rfl rfl rfl (by simp; omega) hb9.size ?_
          intro v8 w8 own8 hg8
          have hb8 := own_step own9 hg8 hb9
          go_wp2
          go_ret
          exact ⟨_, rfl, by rw [HE.out]; simpa using own8.base_mono (Below.size (show Below w.heap.size w w4 by (repeat (first | exact bl_refl | assumption | (apply bl_then; assumption) | refine bl_alloc ?_ _ | refine bl_drew ?_ | refine bl_drewN ?_ _)))), by (repeat (first | exact bl_refl | assumption | (apply bl_then; assumption) | refine bl_alloc ?_ _ | refine bl_drew ?_ | refine bl_drewN ?_ _))⟩
      · clear hq H
        go_wp2
        refine wp_region_ords [0, 1, 2, 3, 4, 5, 6, 7, 8, 9] [] [10, 11] (by kernel_rfl) (by kernel_rfl) (fun d _ _ _ _ h => by cases d <;> exact h) ?_
        simp only [List.map_cons, List.map_nil, List.getD_cons_zero, List.getD_cons_succ]
        repeat (go_big_quiet_step (fail))
        refine wpQuiet_nil ?_
        refine wpMid_nil ?_
        go_wp2
        obtain ⟨w4, hw4⟩ : ∃ X, wr.drew = X := ⟨_, rfl⟩
        have hb4 : Below wr.heap.size wr w4 := by rw [← hw4]; exact bl_drew bl_refl
        rw [hw4]
        have hB4 := hBr.below hb4
        have f4 := hB4.facts
        have hT := (sl_pre hr hk hkc hcm).below hb4
        have hD := (sl_post hr hlc hk hcm).below hb4
        refine wp_region_tree [1, 2, 3, 5, 8, 9, 10] (.alt (.br 0 (.alt (.br 4 (.alt (.br 6 (.alt (.br 7 (.fin) (.stop))) (.stop))) (.br 6 (.alt (.br 4 (.alt (.br 7 (.fin) (.stop))) (.stop))) (.stop)))) (.br 6 (.alt (.br 0 (.alt (.br 4 (.alt (.br 7 (.fin) (.stop))) (.stop))) (.stop))) (.stop)))) [11, 12] (by kernel_rfl) (by kernel_rfl) (fun d _ _ _ _ h => by cases d <;> exact h) ?_
        simp only [List.map_cons, List.map_nil, List.getD_cons_zero, List.getD_cons_succ]
        repeat (go_big_quiet_step (fail))
        refine wpQuiet_nil ?_
        refine wpTree_alt (wpTree_br rfl rfl ?_ (wpTree_br rfl rfl ?_ wpTree_stop))
        have own1 := (Own.empty bc 3 w4.drew 70).base_mono (show w4.heap.size ≤ (w4.drew).heap.size by simp <;> omega)
        intro K hK
        go_simp
        refine hK _ _ (by (repeat (first | exact bl_refl | assumption | (apply bl_then; assumption) | refine bl_alloc ?_ _ | refine bl_drew ?_ | refine bl_drewN ?_ _))) ?_
        clear hK K
        refine wpTree_alt (wpTree_br rfl rfl ?_ (wpTree_br rfl rfl ?_ wpTree_stop))
        intro K hK
        simp only [Array.getD_eq_getD_getElem?, List.getElem?_toArray, List.getElem?_cons_succ, List.getElem?_cons_zero, Option.getD_some]
        refine opB_app own1 (hT.below (by (repeat (first | exact bl_refl | assumption | (apply bl_then; assumption) | refine bl_alloc ?_ _ | refine bl_drew ?_ | refine bl_drewN ?_ _)))) _ _ rfl rfl rfl (by simp; omega) (Below.size (by (repeat (first | exact bl_refl | assumption | (apply bl_then; assumption) | refine bl_alloc ?_ _ | refine bl_drew ?_ | refine bl_drewN ?_ _)))) ?_
        intro v6 w6 own6 hg6
        have hb6 := own_step own1 hg6 (by (repeat (first | exact bl_refl | assumption | (apply bl_then; assumption) | refine bl_alloc ?_ _ | refine bl_drew ?_ | refine bl_drewN ?_ _)))
        refine hK _ _ hb6 ?_
        clear hK K
        have one1 := Blk.new w6 70 #[.int .i64 x, .int .i64 y, .int .i64 s]
        refine wpTree_alt (wpTree_br rfl rfl ?_ wpTree_stop)
        intro K hK
        go_simp
        refine hK _ _ (by (repeat (first | exact bl_refl | assumption | (apply bl_then; assumption) | refine bl_alloc ?_ _ | refine bl_drew ?_ | refine bl_drewN ?_ _))) ?_
        clear hK K
        refine wpTree_alt (wpTree_br rfl rfl ?_ wpTree_stop)
        intro K hK
        simp only [Array.getD_eq_getD_getElem?, List.getElem?_toArray, List.getElem?_cons_succ, List.getElem?_cons_zero, Option.getD_some]
        refine opB_app (own6.alloc (.cells #[.int .i64 x, .int .i64 y, .int .i64 s] 70)) one1.one_bar _ _ rfl rfl rfl (by simp; omega) (Below.size (by (repeat (first | exact bl_refl | assumption | (apply bl_then; assumption) | refine bl_alloc ?_ _ | refine bl_drew ?_ | refine bl_drewN ?_ _)))) ?_
        intro v9 w9 own9 hg9
        have hb9 := own_step (own6.alloc (.cells #[.int .i64 x, .int .i64 y, .int .i64 s] 70)) hg9 (by (repeat (first | exact bl_refl | assumption | (apply bl_then; assumption) | refine bl_alloc ?_ _ | refine bl_drew ?_ | refine bl_drewN ?_ _)))
        refine hK _ _ hb9 ?_
        clear hK K
        refine wpTree_fin ?_
        rotate_left
        have one1 := Blk.new (w4.drew.alloc (.cells #[] 70)) 70 #[.int .i64 x, .int .i64 y, .int .i64 s]
        simp only [World.size_alloc] at one1
        intro K hK
        go_simp
        refine hK _ _ (by (repeat (first | exact bl_refl | assumption | (apply bl_then; assumption) | refine bl_alloc ?_ _ | refine bl_drew ?_ | refine bl_drewN ?_ _))) ?_
        clear hK K
        refine wpTree_alt (wpTree_br rfl rfl ?_ wpTree_stop)
        intro K hK
        simp only [Array.getD_eq_getD_getElem?, List.getElem?_toArray, List.getElem?_cons_succ, List.getElem?_cons_zero, Option.getD_some]
        refine opB_app (own1.alloc (.cells #[.int .i64 x, .int .i64 y, .int .i64 s] 70)) (hT.below (by (repeat (first | exact bl_refl | assumption | (apply bl_then; assumption) | refine bl_alloc ?_ _ | refine bl_drew ?_ | refine bl_drewN ?_ _)))) _ _ rfl rfl rfl (by simp; omega) (Below.size (by (repeat (first | exact bl_refl | assumption | (apply bl_then; assumption) | refine bl_alloc ?_ _ | refine bl_drew ?_ | refine bl_drewN ?_ _)))) ?_
        intro v6 w6 own6 hg6
        have hb6 := own_step (own1.alloc (.cells #[.int .i64 x, .int .i64 y, .int .i64 s] 70)) hg6 (by (repeat (first | exact bl_refl | assumption | (apply bl_then; assumption) | refine bl_alloc ?_ _ | refine bl_drew ?_ | refine bl_drewN ?_ _)))
        refine hK _ _ hb6 ?_
        clear hK K
        refine wpTree_alt (wpTree_br rfl rfl ?_ wpTree_stop)
        intro K hK
        simp only [Array.getD_eq_getD_getElem?, List.getElem?_toArray, List.getElem?_cons_succ, List.getElem?_cons_zero, Option.getD_some]
        refine opB_app own6 (one1.grown hg6 (by simp [Value.ownBlock])).one_bar _ _ rfl rfl rfl (by simp; omega) (Below.size (by (repeat (first | exact bl_refl | assumption | (apply bl_then; assumption) | refine bl_alloc ?_ _ | refine bl_drew ?_ | refine bl_drewN ?_ _)))) ?_
        intro v9 w9 own9 hg9
        have hb9 := own_step own6 hg9 (by (repeat (first | exact bl_refl | assumption | (apply bl_then; assumption) | refine bl_alloc ?_ _ | refine bl_drew ?_ | refine bl_drewN ?_ _)))
        refine hK _ _ hb9 ?_
        clear hK K
        refine wpTree_fin ?_
        rotate_left
        have one1 := Blk.new w4.drew 70 #[.int .i64 x, .int .i64 y, .int .i64 s]
        intro K hK
        go_simp
        refine hK _ _ (by (repeat (first | exact bl_refl | assumption | (apply bl_then; assumption) | refine bl_alloc ?_ _ | refine bl_drew ?_ | refine bl_drewN ?_ _))) ?_
        clear hK K
        refine wpTree_alt (wpTree_br rfl rfl ?_ wpTree_stop)
        have own1 := (Own.empty bc 3 (w4.drew.alloc (.cells #[.int .i64 x, .int .i64 y, .int .i64 s] 70)) 70).base_mono (show w4.heap.size ≤ ((w4.drew.alloc (.cells #[.int .i64 x, .int .i64 y, .int .i64 s] 70))).heap.size by simp <;> omega)
        simp only [World.size_alloc] at own1
        intro K hK
        go_simp
        refine hK _ _ (by (repeat (first | exact bl_refl | assumption | (apply bl_then; assumption) | refine bl_alloc ?_ _ | refine bl_drew ?_ | refine bl_drewN ?_ _))) ?_
        clear hK K
        refine wpTree_alt (wpTree_br rfl rfl ?_ wpTree_stop)
        intro K hK
        simp only [Array.getD_eq_getD_getElem?, List.getElem?_toArray, List.getElem?_cons_succ, List.getElem?_cons_zero, Option.getD_some]
        refine opB_app own1 (hT.below (by (repeat (first | exact bl_refl | assumption | (apply bl_then; assumption) | refine bl_alloc ?_ _ | refine bl_drew ?_ | refine bl_drewN ?_ _)))) _ _ rfl rfl rfl (by simp; omega) (Below.size (by (repeat (first | exact bl_refl | assumption | (apply bl_then; assumption) | refine bl_alloc ?_ _ | refine bl_drew ?_ | refine bl_drewN ?_ _)))) ?_
        intro v6 w6 own6 hg6
        have hb6 := own_step own1 hg6 (by (repeat (first | exact bl_refl | assumption | (apply bl_then; assumption) | refine bl_alloc ?_ _ | refine bl_drew ?_ | refine bl_drewN ?_ _)))
        refine hK _ _ hb6 ?_
        clear hK K
        refine wpTree_alt (wpTree_br rfl rfl ?_ wpTree_stop)
        intro K hK
        simp only [Array.getD_eq_getD_getElem?, List.getElem?_toArray, List.getElem?_cons_succ, List.getElem?_cons_zero, Option.getD_some]
        refine opB_app own6 ((one1.alloc (.cells #[] 70)).grown hg6 (by simp [Value.ownBlock])).one_bar _ _ rfl rfl rfl (by simp; omega) (Below.size (by (repeat (first | exact bl_refl | assumption | (apply bl_then; assumption) | refine bl_alloc ?_ _ | refine bl_drew ?_ | refine bl_drewN ?_ _)))) ?_
        intro v9 w9 own9 hg9
        have hb9 := own_step own6 hg9 (by (repeat (first | exact bl_refl | assumption | (apply bl_then; assumption) | refine bl_alloc ?_ _ | refine bl_drew ?_ | refine bl_drewN ?_ _)))
        refine hK _ _ hb9 ?_
        clear hK K
        refine wpTree_fin ?_
        rotate_left
        all_goals
          refine wpList_appBS own9 (hD.below hb9) rfl _ _ rfl rfl rfl (by simp; omega) hb9.size ?_
          intro v8 w8 own8 hg8
          have hb8 := own_step own9 hg8 hb9
          go_wp2
          all_goals go_ret
          all_goals exact ⟨_, rfl, by rw [HE.out]; simpa using own8.base_mono (Below.size (show Below w.heap.size w w4 by (repeat (first | exact bl_refl | assumption | (apply bl_then; assumption) | refine bl_alloc ?_ _ | refine bl_drew ?_ | refine bl_drewN ?_ _)))), by (repeat (first | exact bl_refl | assumption | (apply bl_then; assumption) | refine bl_alloc ?_ _ | refine bl_drew ?_ | refine bl_drewN ?_ _))⟩
end Go.Proofs.YthcnngoaijgnoaaGreat

/- The knots of a hole, of the reference, walked. Conditions: bars within bounds. -/
namespace Go.Proofs.YthcnngoaijgnoaaGreat
open Go.RowKit Go.ChangeMaps
set_option maxHeartbeats 4000000
set_option maxRecDepth 100000

theorem insK_drop {l : List Knot} {e : Knot} {k : Nat} (hk : k < l.length) : insK (l.drop k) e = if kltP l[k] e then l[k] :: insK (l.drop (k + 1)) e else if l[k] = e then l.drop k else e :: l.drop k := by
  rw [List.drop_eq_getElem_cons hk, insK]
theorem holeIn_take {D : List Bar} {o : List Knot} {i : Nat} (hi : i < D.length) : holeIn o (D.take (i + 1)) = insK (insK (holeIn o (D.take i)) (lowK D[i])) (uppK D[i]) := by
  unfold holeIn
  rw [List.take_succ_eq_append_getElem hi, List.foldl_append]; rfl
theorem mem_k {i : Nat} {l : List Nat} (h : l.contains i = true) : i ∈ l := by simpa using h
def endK (b : Bar) : Nat → Knot
  | 0 => lowK b
  | _ => uppK b
def insTo (o : List Knot) (b : Bar) : Nat → List Knot
  | 0 => o
  | n + 1 => insK (insTo o b n) (endK b n)
theorem insTo_len (o : List Knot) (b : Bar) : ∀ n, (insTo o b n).length ≤ o.length + n
  | 0 => Nat.le_refl _
  | n + 1 => by
    have := insTo_len o b n
    have h := insK_len (endK b n) (insTo o b n)
    simp only [insTo]
    omega
theorem end_cells {W : World} {g : Nat} {t : TypeId} {x y s : Int} (h : Blk W g t #[.int .i64 x, .int .i64 y, .int .i64 (x + s), .int .i64 (y + 1)]) {n : Nat} (hn : n < 2) :
    W.cell? ⟨g, n * 2, none⟩ = some (.int .i64 (endK (x, y, s) n).1) ∧ W.cell? ⟨g, n * 2 + 1, none⟩ = some (.int .i64 (endK (x, y, s) n).2) := by
  rw [h.cell, h.cell]
  obtain rfl | rfl : n = 0 ∨ n = 1 := by omega
  · exact ⟨rfl, rfl⟩
  · exact ⟨rfl, rfl⟩
def holeF (x y s : Int) (n₀ : Nat) (i : Nat) (v : Value) (W : World) : Prop :=
  (i = 5 → v = .agg #[.int .i64 x, .int .i64 y]) ∧ (i = 11 → v = .agg #[.int .i64 (x + s), .int .i64 (y + 1)]) ∧
  (i = 12 → v = .agg #[.int .i64 x, .int .i64 y, .int .i64 (x + s), .int .i64 (y + 1)]) ∧
  (i = 13 → ∃ g, v = .pointer (some ⟨g, 0, none⟩) ∧ n₀ ≤ g ∧ Blk W g 137 #[.int .i64 0, .int .i64 0, .int .i64 0, .int .i64 0])
theorem holeF_st (x y s : Int) (n₀ : Nat) : ∀ i v W W', holeF x y s n₀ i v W → Below W.heap.size W W' → holeF x y s n₀ i v W' := fun i v W W' h hb =>
  ⟨h.1, h.2.1, h.2.2.1, fun hi => by obtain ⟨g, h1, h0, h2⟩ := h.2.2.2 hi; exact ⟨g, h1, h0, h2.below hb⟩⟩
theorem rhole_any {v u : Value} (D : List Bar) (w : World) (hD : SlB w u D) (hk : ∀ b ∈ D, BarOk b) (hlen : D.length ≤ 100000) :
    Calls Tryz.prog 110 #[.agg #[v, u]] w (RK w (holeK D)) := by
  obtain ⟨A, c, rfl, hlc, hcm, h⟩ := hD
  have hB := Blk.new w 24 #[v, .slice A D.length c]
  have HK := Lib.hid hk
  clear hk
  go_enter Tryz.func110, Tryz.ntmps110
  go_wp2
  go_loopw [3, 4] (fun o i wr => ∃ k : Nat, k ≤ D.length ∧ i = .int .i64 k ∧ Blk wr w.heap.size 24 #[v, .slice A D.length c] ∧ OwK w.heap.size wr o (holeIn [] (D.take k)) ∧ Below w.heap.size w wr) (fun _ i _ => D.length - (intOf i).toNat)
  case atStart => exact ⟨0, Nat.zero_le _, rfl, hB, Own.nil_, by (repeat (first | exact bl_refl | assumption | (apply bl_then; assumption) | refine bl_alloc ?_ _ | refine bl_drew ?_ | refine bl_drewN ?_ _))⟩
  case round =>
    clear hB
    obtain ⟨k, hk, rfl, hT, hO, hbw⟩ := hrel
    have fT := hT.facts
    by_cases hlt : k < D.length
    · have hr := h.below hbw
      have hbo := HK.out _ (List.getElem_mem hlt)
      have HTK := Lib.hid (holeIn_take (o := []) hlt)
      have hll := holeIn_len (D.take k) []
      have htk : (D.take k).length ≤ 100000 := by simp; omega
      obtain ⟨acc, hacc⟩ : ∃ acc, holeIn [] (D.take k) = acc := ⟨_, rfl⟩
      rw [hacc] at hO HTK hll
      have hll2 : acc.length ≤ 200000 := by simp only [List.length_nil] at hll; omega
      clear hll hacc htk
      obtain ⟨b, off, rfl, hb, e0, e1, e2⟩ := hr.bar hlt
      obtain ⟨⟨x, y, s⟩, hx⟩ : ∃ z, D[k] = z := ⟨_, rfl⟩
      rw [hx] at e0 e1 e2 hbo HTK
      obtain ⟨q1, q2, q3⟩ := hbo
      simp only at q1 q2 q3
      clear hx
      go_wp2
      refine wp_region_facts (holeF x y s wr.heap.size) [0, 1, 2, 3, 4, 6, 7, 8, 9, 10] [13] [5, 11, 12, 13] [14] (by decide) (by kernel_rfl) (by kernel_rfl) (fun d _ _ _ _ h => by cases d <;> exact h) (holeF_st x y s wr.heap.size) ?_
      simp only [List.map_cons, List.map_nil, List.getD_cons_zero, List.getD_cons_succ]
      repeat (go_big_quiet_step (fail))
      refine wpQuiet_nil ⟨List.forall_mem_cons.2 ⟨?_, List.forall_mem_cons.2 ⟨?_, List.forall_mem_cons.2 ⟨?_, List.forall_mem_cons.2 ⟨?_, List.forall_mem_nil _⟩⟩⟩⟩, ?_⟩
      · intro vals W hbW hF
        refine facts_step (fun K hK => ?_)
        simp only [putAll, Array.getD_eq_getD_getElem?, List.getElem?_toArray, List.getElem?_cons_succ, List.getElem?_cons_zero, Option.getD_some, List.getD_cons_succ, List.getD_cons_zero, Act.put, List.setIfInBounds_toArray, List.set_cons_zero, List.set_cons_succ]
        go_simp
        refine (low_any _ _ _ _).mono ?_
        rintro e w1 ⟨rfl, hb1⟩
        exact hK _ _ _ rfl hb1 ⟨fun _ => rfl, fun h => by simp at h, fun h => by simp at h, fun h => by simp at h⟩ (fun h => by simp at h)
      · intro vals W hbW hF
        refine facts_step (fun K hK => ?_)
        simp only [putAll, Array.getD_eq_getD_getElem?, List.getElem?_toArray, List.getElem?_cons_succ, List.getElem?_cons_zero, Option.getD_some, List.getD_cons_succ, List.getD_cons_zero, Act.put, List.setIfInBounds_toArray, List.set_cons_zero, List.set_cons_succ]
        go_simp
        refine (high_any _ _ _ (by omega) (by omega) (by omega) _).mono ?_
        rintro e w1 ⟨rfl, hb1⟩
        exact hK _ _ _ rfl hb1 ⟨fun h => by simp at h, fun _ => rfl, fun h => by simp at h, fun h => by simp at h⟩ (fun h => by simp at h)
      · intro vals W hbW hF
        have h5 := (hF 5 (mem_k (by kernel_rfl))).1 rfl
        have h11 := (hF 11 (mem_k (by kernel_rfl))).2.1 rfl
        refine facts_step (fun K hK => ?_)
        simp only [putAll, Array.getD_eq_getD_getElem?, List.getElem?_toArray, List.getElem?_cons_succ, List.getElem?_cons_zero, Option.getD_some, List.getD_cons_succ, List.getD_cons_zero, Act.put, List.setIfInBounds_toArray, List.set_cons_zero, List.set_cons_succ, h5, h11]
        go_simp
        exact hK (.agg #[.int .i64 x, .int .i64 y, .int .i64 (x + s), .int .i64 (y + 1)]) _ _ (by simp only [putAll, Array.getD_eq_getD_getElem?, List.getElem?_toArray, List.getElem?_cons_succ, List.getElem?_cons_zero, Option.getD_some, List.getD_cons_succ, List.getD_cons_zero, Act.put, List.setIfInBounds_toArray, List.set_cons_zero, List.set_cons_succ, h5, h11]) bl_refl ⟨fun h => by simp at h, fun h => by simp at h, fun _ => rfl, fun h => by simp at h⟩ (fun h => by simp at h)
      · intro vals W hbW hF
        refine facts_step (fun K hK => ?_)
        simp only [putAll, Array.getD_eq_getD_getElem?, List.getElem?_toArray, List.getElem?_cons_succ, List.getElem?_cons_zero, Option.getD_some, List.getD_cons_succ, List.getD_cons_zero, Act.put, List.setIfInBounds_toArray, List.set_cons_zero, List.set_cons_succ]
        go_simp
        exact hK _ _ _ rfl (bl_alloc bl_refl _) ⟨fun h => by simp at h, fun h => by simp at h, fun h => by simp at h, fun _ => ⟨_, rfl, hbW.size, Blk.new _ _ _⟩⟩ (fun _ => ⟨_, rfl, Nat.le_refl _, by simp⟩)
      · intro vals W hbW hF hAp
        simp only [putAll, Array.getD_eq_getD_getElem?, List.getElem?_toArray, List.getElem?_cons_succ, List.getElem?_cons_zero, Option.getD_some, Act.put, List.setIfInBounds_toArray, List.set_cons_zero, List.set_cons_succ]
        have h12 := (hF 12 (by simp)).2.2.1 rfl
        obtain ⟨g5, e5, hg5, hB5⟩ := (hF 13 (by simp)).2.2.2 rfl
        simp only [h12, e5]
        clear hF hAp h12 e5
        refine wpList_store_blk hB5 rfl _ _ _ rfl rfl rfl (by rfl) (by kernel_rfl) (by kernel_rfl) fun w5 hE hc5 => ?_
        have hlw := hT.lt
        have hT5 := (hT.below hbW).chg hc5 (by simp; omega)
        have hO5 := (hO.below hbW).chg1 hc5 (fun h => by have := hO.lt _ h; omega)
        have hbw5 : Below w.heap.size w w5 := ((Chg.of_below (S := [g5]) (bl_then hbW hbw)).trans hc5).below (by simp; omega) (Nat.le_refl _)
        have H2 : Hid (holeIn [] (D.take (k + 1)) = insTo acc (x, y, s) 2) := HTK
        clear hB5 hc5 hT hO fT e0 e1 e2 hr HTK
        go_wp2
        go_loopw [3, 6] (fun o i wq => ∃ n : Nat, n ≤ 2 ∧ i = .int .i64 n ∧ Blk wq g5 137 #[.int .i64 x, .int .i64 y, .int .i64 (x + s), .int .i64 (y + 1)] ∧ Blk wq w.heap.size 24 #[v, .slice (some ⟨b, off, none⟩) D.length c] ∧ OwK w.heap.size wq o (insTo acc (x, y, s) n) ∧ Below w.heap.size w wq) (fun _ i _ => 2 - (intOf i).toNat)
        case atStart => exact ⟨0, by omega, rfl, hE, hT5, hO5, hbw5⟩
        case round =>
          clear hE hT5 hO5 hbw5
          obtain ⟨n, hn, rfl, hE, hT, hO, hbw⟩ := hrel
          by_cases hn2 : n < 2
          · have hll := insTo_len acc (x, y, s) n
            obtain ⟨⟨ex, ey⟩, hex⟩ : ∃ z, endK (x, y, s) n = z := ⟨_, rfl⟩
            have HNX : Hid (insTo acc (x, y, s) (n + 1) = insK (insTo acc (x, y, s) n) (ex, ey)) := by unfold Hid; rw [insTo, hex]
            obtain ⟨l, hl⟩ : ∃ l, insTo acc (x, y, s) n = l := ⟨_, rfl⟩
            rw [hl] at hO hll HNX
            have hll3 : l.length ≤ 300000 := by omega
            obtain ⟨A3, c3, rfl⟩ := hO.shape
            obtain ⟨A3', c3', he3, hlc3, hcm3, hr3⟩ := hO.rd kc_len
            obtain ⟨rfl, rfl⟩ : A3 = A3' ∧ c3 = c3' := by simpa using he3
            have hnt : ((n : Int) < 2) = True := by simp; omega
            clear hll hl he3
            go_wp2
            go_loopw [7] (fun i wz => ∃ k2 : Nat, k2 ≤ l.length ∧ i = .int .i64 k2 ∧ Hid (insK l (ex, ey) = l.take k2 ++ insK (l.drop k2) (ex, ey)) ∧ Below wr.heap.size wr wz) (fun i _ => l.length - (intOf i).toNat)
            case atStart => exact ⟨0, Nat.zero_le _, rfl, by simp [Hid], by (repeat (first | exact bl_refl | assumption | (apply bl_then; assumption) | refine bl_alloc ?_ _ | refine bl_drew ?_ | refine bl_drewN ?_ _))⟩
            case round =>
              obtain ⟨k2, hk2, rfl, H, hbz⟩ := hrel
              have hEz := hE.below hbz
              have fE := hEz.facts.2
              have fc := end_cells hEz hn2
              rw [hex] at fc
              simp only at fc
              have hrz := hr3.below hbz
              have hkc3 : k2 ≤ c3 := by omega
              by_cases hq : ∃ hlt : k2 < l.length, kltB l[k2].1 l[k2].2 ex ey = true
              · obtain ⟨hlt2, hg⟩ := hq
                obtain ⟨b3, off3, rfl, hb3, e0, e1⟩ := hrz.knot hlt2
                have HD : Hid (insK (l.drop k2) (ex, ey) = l[k2] :: insK (l.drop (k2 + 1)) (ex, ey)) := by
                  unfold Hid
                  rw [insK_drop hlt2, if_pos (by unfold kltB at hg; unfold kltP; simpa using hg)]
                have he := fun W => before_any l[k2].1 l[k2].2 ex ey W
                simp only [hg] at he
                clear hg
                go_wp2
                refine wp_region_ords [0, 1, 2, 3, 4, 5, 6, 7, 8, 9, 10, 11] [] [12, 13] (by kernel_rfl) (by kernel_rfl) (fun d _ _ _ _ h => by cases d <;> exact h) ?_
                simp only [List.map_cons, List.map_nil, List.getD_cons_zero, List.getD_cons_succ]
                repeat (go_big_quiet_step (fail))
                refine wpQuiet_nil ?_
                refine wpMid_nil ?_
                go_wp2_with (go_at_call 148; refine (he _).mono ?_; rintro e w4 ⟨rfl, hb4⟩)
                go_roundw
                case rel => exact ⟨k2 + 1, by omega, by go_num, by unfold Hid; rw [H.out, HD.out, List.take_succ_eq_append_getElem hlt2, List.append_assoc]; rfl, by (repeat (first | exact bl_refl | assumption | (apply bl_then; assumption) | refine bl_alloc ?_ _ | refine bl_drew ?_ | refine bl_drewN ?_ _))⟩
                case measure => simp [intOf]; omega
              · by_cases hlt2 : k2 < l.length
                · have hg : kltB l[k2].1 l[k2].2 ex ey = false := by
                    cases hg : kltB l[k2].1 l[k2].2 ex ey
                    · rfl
                    · exact absurd ⟨hlt2, hg⟩ hq
                  obtain ⟨b3, off3, rfl, hb3, e0, e1⟩ := hrz.knot hlt2
                  have he := fun W => before_any l[k2].1 l[k2].2 ex ey W
                  simp only [hg] at he
                  have HD : Hid (insK l (ex, ey) = l.take k2 ++ if l[k2] = (ex, ey) then l.drop k2 else (ex, ey) :: l.drop k2) := by
                    unfold Hid
                    rw [H.out, insK_drop hlt2, if_neg (by unfold kltB at hg; unfold kltP; simpa using hg)]
                  have hkf : ((k2 : Int) == (l.length : Int)) = false := by simp; omega
                  obtain ⟨q, hqq⟩ : ∃ q, beqK l[k2].1 l[k2].2 ex ey = q := ⟨_, rfl⟩
                  clear hq H
                  cases q
                  · have HE : Hid (insK l (ex, ey) = (l.take k2 ++ [(ex, ey)]) ++ l.drop k2) := by
                      unfold Hid
                      rw [HD.out, if_neg (fun h => by have h2 : beqK l[k2].1 l[k2].2 ex ey = true := beqK_true.2 h; rw [hqq] at h2; cases h2), List.append_assoc]; rfl
                    clear HD
                    go_wp2
                    refine wp_region_ords [0, 1, 2, 3, 4, 5, 6, 7, 8, 9, 10, 11] [] [12, 13] (by kernel_rfl) (by kernel_rfl) (fun d _ _ _ _ h => by cases d <;> exact h) ?_
                    simp only [List.map_cons, List.map_nil, List.getD_cons_zero, List.getD_cons_succ]
                    repeat (go_big_quiet_step (fail))
                    refine wpQuiet_nil ?_
                    refine wpMid_nil ?_
                    go_wp2_with (go_at_call 148; refine (he _).mono ?_; rintro e w4 ⟨rfl, hb4⟩)
                    replace hb4 : Below wr.heap.size wr w4 := by (repeat (first | exact bl_refl | assumption | (apply bl_then; assumption) | refine bl_alloc ?_ _ | refine bl_drew ?_ | refine bl_drewN ?_ _))
                    have hTw := (hT.below hbz).below hb4
                    have hEw := hEz.below hb4
                    have hOw := (hO.below hbz).below hb4
                    have hbw4 : Below w.heap.size w w4 := by (repeat (first | exact bl_refl | assumption | (apply bl_then; assumption) | refine bl_alloc ?_ _ | refine bl_drew ?_ | refine bl_drewN ?_ _))
                    have fEw := hEw.facts.2
                    have fcw := end_cells hEw hn2
                    rw [hex] at fcw
                    simp only at fcw
                    have hrw := hrz.below hb4
                    obtain ⟨_, e0w, e1w⟩ := hrw.knotAt hlt2
                    go_wp2
                    refine wp_region_ords [0, 1, 2, 3, 4, 5, 6, 7, 8, 9, 10, 11, 12, 13] [] [] (by kernel_rfl) (by kernel_rfl) (fun d _ _ _ _ h => by cases d <;> exact h) ?_
                    simp only [List.map_cons, List.map_nil, List.getD_cons_zero, List.getD_cons_succ]
                    repeat (go_big_quiet_step (fail))
                    refine wpQuiet_nil ?_
                    refine wpMid_nil ?_
                    go_wp2
                    obtain ⟨w7, hw7⟩ : ∃ X, w4.drew = X := ⟨_, rfl⟩
                    have hb7 : Below w4.heap.size w4 w7 := by rw [← hw7]; exact bl_drew bl_refl
                    rw [hw7]
                    have hT4 := (sl_pre hrw hk2 hkc3 hcm3).below hb7
                    have hD4 := (sl_postS (k := k2) hrw hlc3 hcm3).below hb7
                    have hT7 := hTw.below hb7
                    have hE7 := hEw.below hb7
                    have fE7 := hE7.facts.2
                    have fc7 := end_cells hE7 hn2
                    rw [hex] at fc7
                    simp only at fc7
                    have hbw7 : Below w.heap.size w w7 := bl_then hb7 hbw4
                    refine wp_region_tree [1, 2, 3, 5, 6, 7, 10, 11, 12] (.alt (.br 0 (.alt (.br 4 (.alt (.br 8 (.alt (.br 9 (.fin) (.stop))) (.stop))) (.br 8 (.alt (.br 4 (.alt (.br 9 (.fin) (.stop))) (.stop))) (.stop)))) (.br 8 (.alt (.br 0 (.alt (.br 4 (.alt (.br 9 (.fin) (.stop))) (.stop))) (.stop))) (.stop)))) [13, 14] (by kernel_rfl) (by kernel_rfl) (fun d _ _ _ _ h => by cases d <;> exact h) ?_
                    simp only [List.map_cons, List.map_nil, List.getD_cons_zero, List.getD_cons_succ]
                    repeat (go_big_quiet_step (fail))
                    refine wpQuiet_nil ?_
                    refine wpTree_alt (wpTree_br rfl rfl ?_ (wpTree_br rfl rfl ?_ wpTree_stop))
                    have own1 := (Own.empty kc 2 w7.drew 26).base_mono (show w7.heap.size ≤ (w7.drew).heap.size by simp <;> omega)
                    intro K hK
                    go_simp
                    refine hK _ _ (by (repeat (first | exact bl_refl | assumption | (apply bl_then; assumption) | refine bl_alloc ?_ _ | refine bl_drew ?_ | refine bl_drewN ?_ _))) ?_
                    clear hK K
                    refine wpTree_alt (wpTree_br rfl rfl ?_ (wpTree_br rfl rfl ?_ wpTree_stop))
                    intro K hK
                    simp only [Array.getD_eq_getD_getElem?, List.getElem?_toArray, List.getElem?_cons_succ, List.getElem?_cons_zero, Option.getD_some]
                    refine opK_app own1 (hT4.below (by (repeat (first | exact bl_refl | assumption | (apply bl_then; assumption) | refine bl_alloc ?_ _ | refine bl_drew ?_ | refine bl_drewN ?_ _)))) _ _ rfl rfl rfl (by simp; omega) (Below.size (by (repeat (first | exact bl_refl | assumption | (apply bl_then; assumption) | refine bl_alloc ?_ _ | refine bl_drew ?_ | refine bl_drewN ?_ _)))) ?_
                    intro v6 w6 own6 hg6
                    have hb6 := own_step own1 hg6 (by (repeat (first | exact bl_refl | assumption | (apply bl_then; assumption) | refine bl_alloc ?_ _ | refine bl_drew ?_ | refine bl_drewN ?_ _)))
                    refine hK _ _ hb6 ?_
                    clear hK K
                    have one1 := Blk.new w6 26 #[.int .i64 ex, .int .i64 ey]
                    refine wpTree_alt (wpTree_br rfl rfl ?_ wpTree_stop)
                    intro K hK
                    go_simp
                    refine hK _ _ (by (repeat (first | exact bl_refl | assumption | (apply bl_then; assumption) | refine bl_alloc ?_ _ | refine bl_drew ?_ | refine bl_drewN ?_ _))) ?_
                    clear hK K
                    refine wpTree_alt (wpTree_br rfl rfl ?_ wpTree_stop)
                    intro K hK
                    simp only [Array.getD_eq_getD_getElem?, List.getElem?_toArray, List.getElem?_cons_succ, List.getElem?_cons_zero, Option.getD_some]
                    refine opK_app (own6.alloc (.cells #[.int .i64 ex, .int .i64 ey] 26)) one1.one_knot _ _ rfl rfl rfl (by simp; omega) (Below.size (by (repeat (first | exact bl_refl | assumption | (apply bl_then; assumption) | refine bl_alloc ?_ _ | refine bl_drew ?_ | refine bl_drewN ?_ _)))) ?_
                    intro v9 w9 own9 hg9
                    have hb9 := own_step (own6.alloc (.cells #[.int .i64 ex, .int .i64 ey] 26)) hg9 (by (repeat (first | exact bl_refl | assumption | (apply bl_then; assumption) | refine bl_alloc ?_ _ | refine bl_drew ?_ | refine bl_drewN ?_ _)))
                    refine hK _ _ hb9 ?_
                    clear hK K
                    refine wpTree_fin ?_
                    rotate_left
                    have one1 := Blk.new (w7.drew.alloc (.cells #[] 26)) 26 #[.int .i64 ex, .int .i64 ey]
                    simp only [World.size_alloc] at one1
                    intro K hK
                    go_simp
                    refine hK _ _ (by (repeat (first | exact bl_refl | assumption | (apply bl_then; assumption) | refine bl_alloc ?_ _ | refine bl_drew ?_ | refine bl_drewN ?_ _))) ?_
                    clear hK K
                    refine wpTree_alt (wpTree_br rfl rfl ?_ wpTree_stop)
                    intro K hK
                    simp only [Array.getD_eq_getD_getElem?, List.getElem?_toArray, List.getElem?_cons_succ, List.getElem?_cons_zero, Option.getD_some]
                    refine opK_app (own1.alloc (.cells #[.int .i64 ex, .int .i64 ey] 26)) (hT4.below (by (repeat (first | exact bl_refl | assumption | (apply bl_then; assumption) | refine bl_alloc ?_ _ | refine bl_drew ?_ | refine bl_drewN ?_ _)))) _ _ rfl rfl rfl (by simp; omega) (Below.size (by (repeat (first | exact bl_refl | assumption | (apply bl_then; assumption) | refine bl_alloc ?_ _ | refine bl_drew ?_ | refine bl_drewN ?_ _)))) ?_
                    intro v6 w6 own6 hg6
                    have hb6 := own_step (own1.alloc (.cells #[.int .i64 ex, .int .i64 ey] 26)) hg6 (by (repeat (first | exact bl_refl | assumption | (apply bl_then; assumption) | refine bl_alloc ?_ _ | refine bl_drew ?_ | refine bl_drewN ?_ _)))
                    refine hK _ _ hb6 ?_
                    clear hK K
                    refine wpTree_alt (wpTree_br rfl rfl ?_ wpTree_stop)
                    intro K hK
                    simp only [Array.getD_eq_getD_getElem?, List.getElem?_toArray, List.getElem?_cons_succ, List.getElem?_cons_zero, Option.getD_some]
                    refine opK_app own6 (one1.grown hg6 (by simp [Value.ownBlock])).one_knot _ _ rfl rfl rfl (by simp; omega) (Below.size (by (repeat (first | exact bl_refl | assumption | (apply bl_then; assumption) | refine bl_alloc ?_ _ | refine bl_drew ?_ | refine bl_drewN ?_ _)))) ?_
                    intro v9 w9 own9 hg9
                    have hb9 := own_step own6 hg9 (by (repeat (first | exact bl_refl | assumption | (apply bl_then; assumption) | refine bl_alloc ?_ _ | refine bl_drew ?_ | refine bl_drewN ?_ _)))
                    refine hK _ _ hb9 ?_
                    clear hK K
                    refine wpTree_fin ?_
                    rotate_left
                    have one1 := Blk.new w7.drew 26 #[.int .i64 ex, .int .i64 ey]
                    intro K hK
                    go_simp
                    refine hK _ _ (by (repeat (first | exact bl_refl | assumption | (apply bl_then; assumption) | refine bl_alloc ?_ _ | refine bl_drew ?_ | refine bl_drewN ?_ _))) ?_
                    clear hK K
                    refine wpTree_alt (wpTree_br rfl rfl ?_ wpTree_stop)
                    have own1 := (Own.empty kc 2 (w7.drew.alloc (.cells #[.int .i64 ex, .int .i64 ey] 26)) 26).base_mono (show w7.heap.size ≤ ((w7.drew.alloc (.cells #[.int .i64 ex, .int .i64 ey] 26))).heap.size by simp <;> omega)
                    simp only [World.size_alloc] at own1
                    intro K hK
                    go_simp
                    refine hK _ _ (by (repeat (first | exact bl_refl | assumption | (apply bl_then; assumption) | refine bl_alloc ?_ _ | refine bl_drew ?_ | refine bl_drewN ?_ _))) ?_
                    clear hK K
                    refine wpTree_alt (wpTree_br rfl rfl ?_ wpTree_stop)
                    intro K hK
                    simp only [Array.getD_eq_getD_getElem?, List.getElem?_toArray, List.getElem?_cons_succ, List.getElem?_cons_zero, Option.getD_some]
                    refine opK_app own1 (hT4.below (by (repeat (first | exact bl_refl | assumption | (apply bl_then; assumption) | refine bl_alloc ?_ _ | refine bl_drew ?_ | refine bl_drewN ?_ _)))) _ _ rfl rfl rfl (by simp; omega) (Below.size (by (repeat (first | exact bl_refl | assumption | (apply bl_then; assumption) | refine bl_alloc ?_ _ | refine bl_drew ?_ | refine bl_drewN ?_ _)))) ?_
                    intro v6 w6 own6 hg6
                    have hb6 := own_step own1 hg6 (by (repeat (first | exact bl_refl | assumption | (apply bl_then; assumption) | refine bl_alloc ?_ _ | refine bl_drew ?_ | refine bl_drewN ?_ _)))
                    refine hK _ _ hb6 ?_
                    clear hK K
                    refine wpTree_alt (wpTree_br rfl rfl ?_ wpTree_stop)
                    intro K hK
                    simp only [Array.getD_eq_getD_getElem?, List.getElem?_toArray, List.getElem?_cons_succ, List.getElem?_cons_zero, Option.getD_some]
                    refine opK_app own6 ((one1.alloc (.cells #[] 26)).grown hg6 (by simp [Value.ownBlock])).one_knot _ _ rfl rfl rfl (by simp; omega) (Below.size (by (repeat (first | exact bl_refl | assumption | (apply bl_then; assumption) | refine bl_alloc ?_ _ | refine bl_drew ?_ | refine bl_drewN ?_ _)))) ?_
                    intro v9 w9 own9 hg9
                    have hb9 := own_step own6 hg9 (by (repeat (first | exact bl_refl | assumption | (apply bl_then; assumption) | refine bl_alloc ?_ _ | refine bl_drew ?_ | refine bl_drewN ?_ _)))
                    refine hK _ _ hb9 ?_
                    clear hK K
                    refine wpTree_fin ?_
                    rotate_left
                    all_goals
                      refine wpList_appKS own9 (hD4.below hb9) rfl _ _ rfl rfl rfl (by simp; omega) hb9.size ?_
                      intro v8 w8 own8 hg8
                      have hb8 := own_step own9 hg8 hb9
                      have hT8 := hT7.below hb8
                      have hE8 := hE7.below hb8
                      have hO8 : OwK w.heap.size w8 v8 (insK l (ex, ey)) := by rw [HE.out]; simpa using own8.base_mono (Below.size hbw7)
                      have hbw8 : Below w.heap.size w w8 := bl_then hb8 hbw7
                      clear own8 hg8 own9 own6 own1 hb9 hb6 hg9
                      go_wp2
                      all_goals go_roundw
                      all_goals first | exact ⟨n + 1, by omega, by go_num, hE8, hT8, by rw [HNX.out]; exact hO8, hbw8⟩ | (simp [intOf]; omega)
                  · have HE : Hid (insK l (ex, ey) = l) := by
                      unfold Hid
                      rw [HD.out, if_pos (beqK_true.1 hqq), List.take_append_drop]
                    clear HD
                    go_wp2
                    refine wp_region_ords [0, 1, 2, 3, 4, 5, 6, 7, 8, 9, 10, 11] [] [12, 13] (by kernel_rfl) (by kernel_rfl) (fun d _ _ _ _ h => by cases d <;> exact h) ?_
                    simp only [List.map_cons, List.map_nil, List.getD_cons_zero, List.getD_cons_succ]
                    repeat (go_big_quiet_step (fail))
                    refine wpQuiet_nil ?_
                    refine wpMid_nil ?_
                    go_wp2_with (go_at_call 148; refine (he _).mono ?_; rintro e w4 ⟨rfl, hb4⟩)
                    replace hb4 : Below wr.heap.size wr w4 := by (repeat (first | exact bl_refl | assumption | (apply bl_then; assumption) | refine bl_alloc ?_ _ | refine bl_drew ?_ | refine bl_drewN ?_ _))
                    have hTw := (hT.below hbz).below hb4
                    have hEw := hEz.below hb4
                    have hOw := (hO.below hbz).below hb4
                    have hbw4 : Below w.heap.size w w4 := by (repeat (first | exact bl_refl | assumption | (apply bl_then; assumption) | refine bl_alloc ?_ _ | refine bl_drew ?_ | refine bl_drewN ?_ _))
                    have fEw := hEw.facts.2
                    have fcw := end_cells hEw hn2
                    rw [hex] at fcw
                    simp only at fcw
                    have hrw := hrz.below hb4
                    obtain ⟨_, e0w, e1w⟩ := hrw.knotAt hlt2
                    go_wp2
                    refine wp_region_ords [0, 1, 2, 3, 4, 5, 6, 7, 8, 9, 10, 11, 12, 13] [] [] (by kernel_rfl) (by kernel_rfl) (fun d _ _ _ _ h => by cases d <;> exact h) ?_
                    simp only [List.map_cons, List.map_nil, List.getD_cons_zero, List.getD_cons_succ]
                    repeat (go_big_quiet_step (fail))
                    refine wpQuiet_nil ?_
                    refine wpMid_nil ?_
                    go_wp2
                    go_roundw
                    case rel => exact ⟨n + 1, by omega, by go_num, hEw.drew, hTw.drew, by rw [HNX.out, HE.out]; exact hOw.drew, by (repeat (first | exact bl_refl | assumption | (apply bl_then; assumption) | refine bl_alloc ?_ _ | refine bl_drew ?_ | refine bl_drewN ?_ _))⟩
                    case measure => simp [intOf]; omega
                · have HE : Hid (insK l (ex, ey) = (l.take k2 ++ [(ex, ey)]) ++ l.drop k2) := by
                    unfold Hid
                    rw [H.out, List.drop_eq_nil_of_le (by omega), List.append_nil]; rfl
                  have hkf : ((k2 : Int) == (l.length : Int)) = true := by simp; omega
                  clear hq H
                  go_wp2
                  refine wp_region_ords [0, 1, 2, 3, 4, 5, 6, 7, 8, 9, 10, 11] [] [12, 13] (by kernel_rfl) (by kernel_rfl) (fun d _ _ _ _ h => by cases d <;> exact h) ?_
                  simp only [List.map_cons, List.map_nil, List.getD_cons_zero, List.getD_cons_succ]
                  repeat (go_big_quiet_step (fail))
                  refine wpQuiet_nil ?_
                  refine wpMid_nil ?_
                  go_wp2
                  obtain ⟨w4, hw4⟩ : ∃ X, wr.drew = X := ⟨_, rfl⟩
                  have hb4 : Below wr.heap.size wr w4 := by rw [← hw4]; exact bl_drew bl_refl
                  rw [hw4]
                  have hTw := (hT.below hbz).below hb4
                  have hEw := hEz.below hb4
                  have hOw := (hO.below hbz).below hb4
                  have hbw4 : Below w.heap.size w w4 := by (repeat (first | exact bl_refl | assumption | (apply bl_then; assumption) | refine bl_alloc ?_ _ | refine bl_drew ?_ | refine bl_drewN ?_ _))
                  have fEw := hEw.facts.2
                  have fcw := end_cells hEw hn2
                  rw [hex] at fcw
                  simp only at fcw
                  have hrw := hrz.below hb4
                  go_wp2
                  refine wp_region_ords [0, 1, 2, 3, 4, 5, 6, 7, 8, 9, 10, 11, 12, 13] [] [] (by kernel_rfl) (by kernel_rfl) (fun d _ _ _ _ h => by cases d <;> exact h) ?_
                  simp only [List.map_cons, List.map_nil, List.getD_cons_zero, List.getD_cons_succ]
                  repeat (go_big_quiet_step (fail))
                  refine wpQuiet_nil ?_
                  refine wpMid_nil ?_
                  go_wp2
                  obtain ⟨w7, hw7⟩ : ∃ X, w4.drew = X := ⟨_, rfl⟩
                  have hb7 : Below w4.heap.size w4 w7 := by rw [← hw7]; exact bl_drew bl_refl
                  rw [hw7]
                  have hT4 := (sl_pre hrw hk2 hkc3 hcm3).below hb7
                  have hD4 := (sl_post hrw hlc3 hk2 hcm3).below hb7
                  have hT7 := hTw.below hb7
                  have hE7 := hEw.below hb7
                  have fE7 := hE7.facts.2
                  have fc7 := end_cells hE7 hn2
                  rw [hex] at fc7
                  simp only at fc7
                  have hbw7 : Below w.heap.size w w7 := bl_then hb7 hbw4
                  refine wp_region_tree [1, 2, 3, 5, 6, 7, 10, 11, 12] (.alt (.br 0 (.alt (.br 4 (.alt (.br 8 (.alt (.br 9 (.fin) (.stop))) (.stop))) (.br 8 (.alt (.br 4 (.alt (.br 9 (.fin) (.stop))) (.stop))) (.stop)))) (.br 8 (.alt (.br 0 (.alt (.br 4 (.alt (.br 9 (.fin) (.stop))) (.stop))) (.stop))) (.stop)))) [13, 14] (by kernel_rfl) (by kernel_rfl) (fun d _ _ _ _ h => by cases d <;> exact h) ?_
                  simp only [List.map_cons, List.map_nil, List.getD_cons_zero, List.getD_cons_succ]
                  repeat (go_big_quiet_step (fail))
                  refine wpQuiet_nil ?_
                  refine wpTree_alt (wpTree_br rfl rfl ?_ (wpTree_br rfl rfl ?_ wpTree_stop))
                  have own1 := (Own.empty kc 2 w7.drew 26).base_mono (show w7.heap.size ≤ (w7.drew).heap.size by simp <;> omega)
                  intro K hK
                  go_simp
                  refine hK _ _ (by (repeat (first | exact bl_refl | assumption | (apply bl_then; assumption) | refine bl_alloc ?_ _ | refine bl_drew ?_ | refine bl_drewN ?_ _))) ?_
                  clear hK K
                  refine wpTree_alt (wpTree_br rfl rfl ?_ (wpTree_br rfl rfl ?_ wpTree_stop))
                  intro K hK
                  simp only [Array.getD_eq_getD_getElem?, List.getElem?_toArray, List.getElem?_cons_succ, List.getElem?_cons_zero, Option.getD_some]
                  refine opK_app own1 (hT4.below (by (repeat (first | exact bl_refl | assumption | (apply bl_then; assumption) | refine bl_alloc ?_ _ | refine bl_drew ?_ | refine bl_drewN ?_ _)))) _ _ rfl rfl rfl (by simp; omega) (Below.size (by (repeat (first | exact bl_refl | assumption | (apply bl_then; assumption) | refine bl_alloc ?_ _ | refine bl_drew ?_ | refine bl_drewN ?_ _)))) ?_
                  intro v6 w6 own6 hg6
                  have hb6 := own_step own1 hg6 (by (repeat (first | exact bl_refl | assumption | (apply bl_then; assumption) | refine bl_alloc ?_ _ | refine bl_drew ?_ | refine bl_drewN ?_ _)))
                  refine hK _ _ hb6 ?_
                  clear hK K
                  have one1 := Blk.new w6 26 #[.int .i64 ex, .int .i64 ey]
                  refine wpTree_alt (wpTree_br rfl rfl ?_ wpTree_stop)
                  intro K hK
                  go_simp
                  refine hK _ _ (by (repeat (first | exact bl_refl | assumption | (apply bl_then; assumption) | refine bl_alloc ?_ _ | refine bl_drew ?_ | refine bl_drewN ?_ _))) ?_
                  clear hK K
                  refine wpTree_alt (wpTree_br rfl rfl ?_ wpTree_stop)
                  intro K hK
                  simp only [Array.getD_eq_getD_getElem?, List.getElem?_toArray, List.getElem?_cons_succ, List.getElem?_cons_zero, Option.getD_some]
                  refine opK_app (own6.alloc (.cells #[.int .i64 ex, .int .i64 ey] 26)) one1.one_knot _ _ rfl rfl rfl (by simp; omega) (Below.size (by (repeat (first | exact bl_refl | assumption | (apply bl_then; assumption) | refine bl_alloc ?_ _ | refine bl_drew ?_ | refine bl_drewN ?_ _)))) ?_
                  intro v9 w9 own9 hg9
                  have hb9 := own_step (own6.alloc (.cells #[.int .i64 ex, .int .i64 ey] 26)) hg9 (by (repeat (first | exact bl_refl | assumption | (apply bl_then; assumption) | refine bl_alloc ?_ _ | refine bl_drew ?_ | refine bl_drewN ?_ _)))
                  refine hK _ _ hb9 ?_
                  clear hK K
                  refine wpTree_fin ?_
                  rotate_left
                  have one1 := Blk.new (w7.drew.alloc (.cells #[] 26)) 26 #[.int .i64 ex, .int .i64 ey]
                  simp only [World.size_alloc] at one1
                  intro K hK
                  go_simp
                  refine hK _ _ (by (repeat (first | exact bl_refl | assumption | (apply bl_then; assumption) | refine bl_alloc ?_ _ | refine bl_drew ?_ | refine bl_drewN ?_ _))) ?_
                  clear hK K
                  refine wpTree_alt (wpTree_br rfl rfl ?_ wpTree_stop)
                  intro K hK
                  simp only [Array.getD_eq_getD_getElem?, List.getElem?_toArray, List.getElem?_cons_succ, List.getElem?_cons_zero, Option.getD_some]
                  refine opK_app (own1.alloc (.cells #[.int .i64 ex, .int .i64 ey] 26)) (hT4.below (by (repeat (first | exact bl_refl | assumption | (apply bl_then; assumption) | refine bl_alloc ?_ _ | refine bl_drew ?_ | refine bl_drewN ?_ _)))) _ _ rfl rfl rfl (by simp; omega) (Below.size (by (repeat (first | exact bl_refl | assumption | (apply bl_then; assumption) | refine bl_alloc ?_ _ | refine bl_drew ?_ | refine bl_drewN ?_ _)))) ?_
                  intro v6 w6 own6 hg6
                  have hb6 := own_step (own1.alloc (.cells #[.int .i64 ex, .int .i64 ey] 26)) hg6 (by (repeat (first | exact bl_refl | assumption | (apply bl_then; assumption) | refine bl_alloc ?_ _ | refine bl_drew ?_ | refine bl_drewN ?_ _)))
                  refine hK _ _ hb6 ?_
                  clear hK K
                  refine wpTree_alt (wpTree_br rfl rfl ?_ wpTree_stop)
                  intro K hK
                  simp only [Array.getD_eq_getD_getElem?, List.getElem?_toArray, List.getElem?_cons_succ, List.getElem?_cons_zero, Option.getD_some]
                  refine opK_app own6 (one1.grown hg6 (by simp [Value.ownBlock])).one_knot _ _ rfl rfl rfl (by simp; omega) (Below.size (by (repeat (first | exact bl_refl | assumption | (apply bl_then; assumption) | refine bl_alloc ?_ _ | refine bl_drew ?_ | refine bl_drewN ?_ _)))) ?_
                  intro v9 w9 own9 hg9
                  have hb9 := own_step own6 hg9 (by (repeat (first | exact bl_refl | assumption | (apply bl_then; assumption) | refine bl_alloc ?_ _ | refine bl_drew ?_ | refine bl_drewN ?_ _)))
                  refine hK _ _ hb9 ?_
                  clear hK K
                  refine wpTree_fin ?_
                  rotate_left
                  have one1 := Blk.new w7.drew 26 #[.int .i64 ex, .int .i64 ey]
                  intro K hK
                  go_simp
                  refine hK _ _ (by (repeat (first | exact bl_refl | assumption | (apply bl_then; assumption) | refine bl_alloc ?_ _ | refine bl_drew ?_ | refine bl_drewN ?_ _))) ?_
                  clear hK K
                  refine wpTree_alt (wpTree_br rfl rfl ?_ wpTree_stop)
                  have own1 := (Own.empty kc 2 (w7.drew.alloc (.cells #[.int .i64 ex, .int .i64 ey] 26)) 26).base_mono (show w7.heap.size ≤ ((w7.drew.alloc (.cells #[.int .i64 ex, .int .i64 ey] 26))).heap.size by simp <;> omega)
                  simp only [World.size_alloc] at own1
                  intro K hK
                  go_simp
                  refine hK _ _ (by (repeat (first | exact bl_refl | assumption | (apply bl_then; assumption) | refine bl_alloc ?_ _ | refine bl_drew ?_ | refine bl_drewN ?_ _))) ?_
                  clear hK K
                  refine wpTree_alt (wpTree_br rfl rfl ?_ wpTree_stop)
                  intro K hK
                  simp only [Array.getD_eq_getD_getElem?, List.getElem?_toArray, List.getElem?_cons_succ, List.getElem?_cons_zero, Option.getD_some]
                  refine opK_app own1 (hT4.below (by (repeat (first | exact bl_refl | assumption | (apply bl_then; assumption) | refine bl_alloc ?_ _ | refine bl_drew ?_ | refine bl_drewN ?_ _)))) _ _ rfl rfl rfl (by simp; omega) (Below.size (by (repeat (first | exact bl_refl | assumption | (apply bl_then; assumption) | refine bl_alloc ?_ _ | refine bl_drew ?_ | refine bl_drewN ?_ _)))) ?_
                  intro v6 w6 own6 hg6
                  have hb6 := own_step own1 hg6 (by (repeat (first | exact bl_refl | assumption | (apply bl_then; assumption) | refine bl_alloc ?_ _ | refine bl_drew ?_ | refine bl_drewN ?_ _)))
                  refine hK _ _ hb6 ?_
                  clear hK K
                  refine wpTree_alt (wpTree_br rfl rfl ?_ wpTree_stop)
                  intro K hK
                  simp only [Array.getD_eq_getD_getElem?, List.getElem?_toArray, List.getElem?_cons_succ, List.getElem?_cons_zero, Option.getD_some]
                  refine opK_app own6 ((one1.alloc (.cells #[] 26)).grown hg6 (by simp [Value.ownBlock])).one_knot _ _ rfl rfl rfl (by simp; omega) (Below.size (by (repeat (first | exact bl_refl | assumption | (apply bl_then; assumption) | refine bl_alloc ?_ _ | refine bl_drew ?_ | refine bl_drewN ?_ _)))) ?_
                  intro v9 w9 own9 hg9
                  have hb9 := own_step own6 hg9 (by (repeat (first | exact bl_refl | assumption | (apply bl_then; assumption) | refine bl_alloc ?_ _ | refine bl_drew ?_ | refine bl_drewN ?_ _)))
                  refine hK _ _ hb9 ?_
                  clear hK K
                  refine wpTree_fin ?_
                  rotate_left
                  all_goals
                    refine wpList_appKS own9 (hD4.below hb9) rfl _ _ rfl rfl rfl (by simp; omega) hb9.size ?_
                    intro v8 w8 own8 hg8
                    have hb8 := own_step own9 hg8 hb9
                    have hT8 := hT7.below hb8
                    have hE8 := hE7.below hb8
                    have hO8 : OwK w.heap.size w8 v8 (insK l (ex, ey)) := by rw [HE.out]; simpa using own8.base_mono (Below.size hbw7)
                    have hbw8 : Below w.heap.size w w8 := bl_then hb8 hbw7
                    clear own8 hg8 own9 own6 own1 hb9 hb6 hg9
                    go_wp2
                    all_goals go_roundw
                    all_goals first | exact ⟨n + 1, by omega, by go_num, hE8, hT8, by rw [HNX.out]; exact hO8, hbw8⟩ | (simp [intOf]; omega)
          · have hn2' : n = 2 := by omega
            rw [hn2', ← H2.out] at hO
            clear hn2'
            go_wp2
            go_roundw
            case rel => exact ⟨k + 1, by omega, by go_num, hT, hO, hbw⟩
            case measure => simp [intOf]; omega
    · have HE : Hid (holeK D = holeIn [] (D.take k)) := by unfold Hid holeK; rw [List.take_of_length_le (by omega)]
      go_wp2
      go_ret
      exact ⟨_, rfl, by rw [HE.out]; exact hO, hbw⟩
end Go.Proofs.YthcnngoaijgnoaaGreat

/- The odd knots, the run and whether a torn net is ready, of the reference, walked. Conditions: bars within bounds. -/
namespace Go.Proofs.YthcnngoaijgnoaaGreat
open Go.RowKit Go.ChangeMaps
set_option maxHeartbeats 4000000
set_option maxRecDepth 100000

theorem hole_near {D : List Bar} (hk : ∀ b ∈ D, BarOk b) : ∀ k ∈ holeK D, nearK k := fun k h => knot_near hk ((holeK_mem (fun b hb => (hk b hb).2.2) k).1 h)
theorem hole_len {D : List Bar} : (holeK D).length ≤ 2 * D.length := by
  have := holeIn_len D []
  unfold holeK
  simp only [List.length_nil] at this
  omega
theorem oddK_len {D : List Bar} : (oddK D).length ≤ 2 * D.length := Nat.le_trans (List.length_filter_le _ _) hole_len
theorem odd_near {D : List Bar} (hk : ∀ b ∈ D, BarOk b) : ∀ k ∈ oddK D, nearK k ∧ oddL (legsAt D k) = true := fun k h => by
  obtain ⟨h1, h2⟩ := List.mem_filter.1 h
  exact ⟨hole_near hk k h1, h2⟩
theorem odd_legs {D : List Bar} {k : Knot} (h : oddL (legsAt D k) = true) : legsAt D k ≠ noLegs := odd_ne (by unfold evn; rw [h]; simp)
theorem wk_near {D : List Bar} (hk : ∀ b ∈ D, BarOk b) : ∀ (n : Nat) (d : Dart), d.2 < 4 → barD d ∈ D → ∀ x ∈ wk D n d, nearK x
  | 0, d, _, _, x, h => by simp [wk] at h
  | n + 1, d, ha, hb, x, h => by
    unfold wk at h
    rcases List.mem_cons.1 h with rfl | h
    · exact (dart_near ha (hk _ hb)).2
    · cases ho : oddL (legsAt D (armK d.1 d.2)) with
      | true => rw [ho] at h; simp at h
      | false =>
        rw [ho, if_neg (by simp)] at h
        obtain ⟨h1, h2, _⟩ := step_ok ha hb ho
        exact wk_near hk n _ h1 h2 x h
theorem wk_len (D : List Bar) : ∀ (n : Nat) (d : Dart), (wk D n d).length ≤ n
  | 0, d => by simp [wk]
  | n + 1, d => by
    unfold wk
    have := wk_len D n (nxt D d)
    split
    · simp
    · simp only [List.length_cons]; omega
theorem rwalk_near {D : List Bar} (hk : ∀ b ∈ D, BarOk b) {k : Knot} (h : legsAt D k ≠ noLegs) : ∀ x ∈ rwalkL D k, nearK x := fun x hx => by
  obtain ⟨h1, h2, _⟩ := armZ_ok h
  rcases List.mem_cons.1 hx with rfl | hx
  · exact (dart_near h1 (hk _ h2)).1
  · exact wk_near hk _ (k, armZ D k) h1 h2 x hx
theorem rwalk_len (D : List Bar) (k : Knot) : (rwalkL D k).length ≤ D.length + 1 := by
  have := wk_len D D.length (k, armZ D k)
  simp only [rwalkL, List.length_cons]
  omega
theorem filter_take {α : Type} (p : α → Bool) {l : List α} {k : Nat} (hk : k < l.length) : (l.take (k + 1)).filter p = (l.take k).filter p ++ if p l[k] then [l[k]] else [] := by
  rw [List.take_succ_eq_append_getElem hk, List.filter_append]
  cases h : p l[k] <;> simp [h]
theorem hodd_int {D : List Bar} {k : Knot} {q : Bool} (hq : oddL (legsAt D k) = q) : (((missN D k : Nat) : Int) % 2 == 1) = q := by
  rw [← hq]
  unfold oddL missN
  rw [Bool.eq_iff_iff]
  simp
  omega
theorem rodd_any {v u : Value} (D : List Bar) (w : World) (hD : SlB w u D) (hk : ∀ b ∈ D, BarOk b) (hlen : D.length ≤ 100000) :
    Calls Tryz.prog 55 #[.agg #[v, u]] w (RK w (oddK D)) := by
  have hB := Blk.new w 24 #[v, u]
  have hD0 := hD.alloc (.cells #[v, u] 24)
  have HN := Lib.hid (hole_near hk)
  have hll := hole_len (D := D)
  obtain ⟨l, hl⟩ : ∃ l, holeK D = l := ⟨_, rfl⟩
  have HO : Hid (oddK D = l.filter fun k => oddL (legsAt D k)) := by unfold Hid oddK; rw [hl]
  have hho := fun (v : Value) X (hX : SlB X u D) => rhole_any (v := v) D X hX hk hlen
  rw [hl] at hho hll HN
  clear hl hk
  go_enter Tryz.func55, Tryz.ntmps55
  go_wp2_with (go_at_call 110; refine (hho _ _ hD0).mono ?_; rintro e w1 ⟨v1, rfl, hown1, hb1⟩)
  obtain ⟨A1, c1, rfl⟩ := hown1.shape
  have hB1 := hB.below hb1
  have hD1 := hD0.below hb1
  have hbw1 : Below w.heap.size w w1 := by (repeat (first | exact bl_refl | assumption | (apply bl_then; assumption) | refine bl_alloc ?_ _ | refine bl_drew ?_ | refine bl_drewN ?_ _))
  go_loopw [4, 5] (fun o i wr => ∃ k : Nat, k ≤ l.length ∧ i = .int .i64 k ∧ OwK w1.heap.size wr o ((l.take k).filter fun k => oddL (legsAt D k)) ∧ Below w1.heap.size w1 wr) (fun _ i _ => l.length - (intOf i).toNat)
  case atStart => exact ⟨0, Nat.zero_le _, rfl, Own.nil_, Below.refl _ _⟩
  case round =>
    obtain ⟨k, hkl, rfl, hown, hbw⟩ := hrel
    have hBr := hB1.below hbw
    have fB := hBr.facts
    have hDr := hD1.below hbw
    have hlr := hown1.below hbw
    by_cases hlt : k < l.length
    · obtain ⟨A1', c1', he, hlc, hcm, hr⟩ := hlr.rd kc_len
      obtain ⟨rfl, rfl⟩ : A1 = A1' ∧ c1 = c1' := by simpa using he
      obtain ⟨b, off, rfl, hb, e0, e1⟩ := hr.knot hlt
      have HF := Lib.hid (filter_take (fun k => oddL (legsAt D k)) hlt)
      have hwl : ((l.take k).filter fun k => oddL (legsAt D k)).length ≤ 300000 := Nat.le_trans (List.length_filter_le _ _) (by simp; omega)
      have hnk := HN.out _ (List.getElem_mem hlt)
      unfold nearK at hnk
      have hms := fun (v : Value) X (hX : SlB X u D) => missing_any (v := v) D l[k].1 l[k].2 X hX (by omega) (by omega)
      obtain ⟨q, hq⟩ : ∃ q, oddL (legsAt D (l[k].1, l[k].2)) = q := ⟨_, rfl⟩
      have hodd := hodd_int hq
      have HQ : Hid (oddL (legsAt D l[k]) = q) := hq
      clear he hq hnk
      cases q
      · go_wp2
        refine wp_region_ords [0, 1, 2, 3, 4] [] [5, 6, 7] (by kernel_rfl) (by kernel_rfl) (fun d _ _ _ _ h => by cases d <;> exact h) ?_
        simp only [List.map_cons, List.map_nil, List.getD_cons_zero, List.getD_cons_succ]
        repeat (go_big_quiet_step (fail))
        refine wpQuiet_nil ?_
        refine wpMid_nil ?_
        go_wp2_with (go_at_call 26; refine (hms _ _ hDr.drew).mono ?_; rintro e w4 ⟨rfl, hb4⟩)
        go_roundw
        case rel => exact ⟨k + 1, by omega, by go_num, by rw [HF.out, HQ.out]; simpa using hown.below (bl_d hb4), by (repeat (first | exact bl_refl | assumption | (apply bl_then; assumption) | refine bl_alloc ?_ _ | refine bl_drew ?_ | refine bl_drewN ?_ _))⟩
        case measure => simp [intOf]; omega
      · go_wp2
        refine wp_region_ords [0, 1, 2, 3, 4] [] [5, 6, 7] (by kernel_rfl) (by kernel_rfl) (fun d _ _ _ _ h => by cases d <;> exact h) ?_
        simp only [List.map_cons, List.map_nil, List.getD_cons_zero, List.getD_cons_succ]
        repeat (go_big_quiet_step (fail))
        refine wpQuiet_nil ?_
        refine wpMid_nil ?_
        go_wp2_with (first | (go_at_call 26; refine (hms _ _ hDr.drew).mono ?_; rintro e w4 ⟨rfl, hb4⟩; have hown4 := hown.below (bl_d hb4); have hbw4 : Below w1.heap.size w1 w4 := (by (repeat (first | exact bl_refl | assumption | (apply bl_then; assumption) | refine bl_alloc ?_ _ | refine bl_drew ?_ | refine bl_drewN ?_ _))); obtain ⟨_, f0, f1⟩ := ((hr.below (bl_d hb4))).knotAt hlt) | (at_builtin; refine wpList_appK hown4 rfl _ _ rfl rfl rfl (by omega) (Below.size (by (repeat (first | exact bl_refl | assumption | (apply bl_then; assumption) | refine bl_alloc ?_ _ | refine bl_drew ?_ | refine bl_drewN ?_ _)))) ?_; intro v2 w2 hown2 hgr2))
        have hbw2 := own_step hown4 hgr2 (by (repeat (first | exact bl_refl | assumption | (apply bl_then; assumption) | refine bl_alloc ?_ _ | refine bl_drew ?_ | refine bl_drewN ?_ _)))
        go_roundw
        case rel => exact ⟨k + 1, by omega, by go_num, by rw [HF.out, HQ.out]; exact hown2, by (repeat (first | exact bl_refl | assumption | (apply bl_then; assumption) | refine bl_alloc ?_ _ | refine bl_drew ?_ | refine bl_drewN ?_ _))⟩
        case measure => simp [intOf]; omega
    · have HE : Hid (oddK D = (l.take k).filter fun k => oddL (legsAt D k)) := by unfold Hid; rw [HO.out, List.take_of_length_le (by omega)]
      obtain ⟨A2, c2, rfl⟩ := hown.shape
      go_wp2
      go_ret
      exact ⟨_, rfl, by rw [HE.out]; exact hown.base_mono hbw1.size, by (repeat (first | exact bl_refl | assumption | (apply bl_then; assumption) | refine bl_alloc ?_ _ | refine bl_drew ?_ | refine bl_drewN ?_ _))⟩

theorem rbound_any {v u : Value} (D : List Bar) (w : World) (hD : SlB w u D) (hk : ∀ b ∈ D, BarOk b) (hlen : D.length ≤ 100000) :
    Calls Tryz.prog 56 #[.agg #[v, u]] w (RV w (.int .i64 (boundN D))) := by
  have hB := Blk.new w 24 #[v, u]
  have fB := hB.facts
  have hD0 := hD.alloc (.cells #[v, u] 24)
  have hol := oddK_len (D := D)
  go_enter Tryz.func56, Tryz.ntmps56
  go_wp2_with (go_at_call 55; refine (rodd_any D _ hD0 hk hlen).mono ?_; rintro e w1 ⟨v1, rfl, hown1, hb1⟩; obtain ⟨A1, c1, rfl⟩ := hown1.shape)
  all_goals go_ret
  all_goals refine ⟨ret_int ?_, by (repeat (first | exact bl_refl | assumption | (apply bl_then; assumption) | refine bl_alloc ?_ _ | refine bl_drew ?_ | refine bl_drewN ?_ _))⟩
  all_goals
    unfold boundN
    simp_all
    try omega
end Go.Proofs.YthcnngoaijgnoaaGreat

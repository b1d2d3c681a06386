/- Ends and Has of the program; Around of the reference; walked. Conditions: bounds. -/
import Derived.Test.YtkmjcoofkgpanaaGreatDoorB21
import Derived.Test.YtkmjcoofkgpanaaGreatDoorLknJ
import Derived.Test.YtkmjcoofkgpanaaGreatDoorB11
import Derived.Test.YtkmjcoofkgpanaaGreatDoorB07
import Derived.Test.YtkmjcoofkgpanaaGreatDoorB06
namespace Go.Proofs.YtkmjcoofkgpanaaGreatDoor
open Go.RowKit Go.ChangeMaps
set_option maxHeartbeats 4000000
set_option maxRecDepth 100000

attribute [local go_sem] Oper.semAt_some
/-- the ends of a bar, as the program answers -/
def endsV (x y s : Int) : Array Value := if barE x y s = 0 then #[.int .i64 x, .int .i64 y, .int .i64 (x + s), .int .i64 (y + 1)] else #[.int .i64 0, .int .i64 0, .int .i64 0, .int .i64 0]
theorem apiEnds_any (x y s : Int) (w : World) : Calls Tryz.prog 67 #[.agg #[.int .i64 x, .int .i64 y, .int .i64 s]] w (RLE w (endsV x y s) (barE x y s)) := by
  have hB := (Blk.new w 60 #[.int .i64 x, .int .i64 y, .int .i64 s]).alloc (.cells #[.int .i64 0, .int .i64 0, .int .i64 0, .int .i64 0] 97)
  have hR := Blk.new1 w (.cells #[.int .i64 x, .int .i64 y, .int .i64 s] 60) 97 #[.int .i64 0, .int .i64 0, .int .i64 0, .int .i64 0]
  have fhB := hB.facts
  have fhR := hR.facts
  by_cases hE : barE x y s = 0
  · obtain ⟨q1, q2, q3⟩ := barE_ok hE
    simp only at q1 q2 q3
    have hE' : (barE x y s != 0) = false := by simp [hE]
    have HS : Hid (endsV x y s = #[.int .i64 x, .int .i64 y, .int .i64 (x + s), .int .i64 (y + 1)] ∧ barE x y s = 0) := by unfold Hid endsV; rw [if_pos hE]; exact ⟨rfl, hE⟩
    clear hE
    go_enter Tryz.func67, Tryz.ntmps67
    go_wp2_with fail
    refine (nbar_any _ _ _ _).mono ?_
    rintro e w1 ⟨rfl, hb1⟩
    replace hB := hB.below (show Below _ _ w1 by (repeat (first | exact bl_refl | assumption | (apply bl_then; assumption) | refine bl_alloc ?_ _ | refine bl_drew ?_ | refine bl_drewN ?_ _)))
    replace fhB := hB.facts
    replace hR := hR.below (show Below _ _ w1 by (repeat (first | exact bl_refl | assumption | (apply bl_then; assumption) | refine bl_alloc ?_ _ | refine bl_drew ?_ | refine bl_drewN ?_ _)))
    replace fhR := hR.facts
    go_wp2_with fail
    refine (nends_any _ _ _ (by omega) (by omega) (by omega) _).mono ?_
    rintro e w2 ⟨rfl, hb2⟩
    replace hB := hB.below (show Below _ _ w2 by (repeat (first | exact bl_refl | assumption | (apply bl_then; assumption) | refine bl_alloc ?_ _ | refine bl_drew ?_ | refine bl_drewN ?_ _)))
    replace fhB := hB.facts
    replace hR := hR.below (show Below _ _ w2 by (repeat (first | exact bl_refl | assumption | (apply bl_then; assumption) | refine bl_alloc ?_ _ | refine bl_drew ?_ | refine bl_drewN ?_ _)))
    replace fhR := hR.facts
    have hbw : Below w.heap.size w w2 := by (repeat (first | exact bl_refl | assumption | (apply bl_then; assumption) | refine bl_alloc ?_ _ | refine bl_drew ?_ | refine bl_drewN ?_ _))
    go_wp2_with (refine wpList_store_blk hR rfl _ _ _ rfl rfl rfl (by rfl) (by kernel_rfl) (by kernel_rfl) ?_; intro w4 hR4 hc4; have fR4 := hR4.facts)
    have hb4 : Below w.heap.size w w4 := ((Chg.of_below hbw).trans (hc4.mono (S' := [w.heap.size + 1]) (by simp))).below (by simp) (Nat.le_refl _)
    refine bodyPost_ret (v := .tuple #[.agg #[.int .i64 x, .int .i64 y, .int .i64 (x + s), .int .i64 (y + 1)], .int .i64 0]) (by simp [results, Tryz.results67, go_sem, fR4]) rfl ?_
    exact ⟨by rw [HS.out.1, HS.out.2], hb4⟩
  · have hE' : (barE x y s != 0) = true := by simpa using hE
    have HS : Hid (endsV x y s = #[.int .i64 0, .int .i64 0, .int .i64 0, .int .i64 0]) := by unfold Hid endsV; rw [if_neg hE]
    clear hE
    go_enter Tryz.func67, Tryz.ntmps67
    go_wp2_with fail
    refine (nbar_any _ _ _ _).mono ?_
    rintro e w1 ⟨rfl, hb1⟩
    replace hB := hB.below (show Below _ _ w1 by (repeat (first | exact bl_refl | assumption | (apply bl_then; assumption) | refine bl_alloc ?_ _ | refine bl_drew ?_ | refine bl_drewN ?_ _)))
    replace fhB := hB.facts
    replace hR := hR.below (show Below _ _ w1 by (repeat (first | exact bl_refl | assumption | (apply bl_then; assumption) | refine bl_alloc ?_ _ | refine bl_drew ?_ | refine bl_drewN ?_ _)))
    replace fhR := hR.facts
    have hbw : Below w.heap.size w w1 := by (repeat (first | exact bl_refl | assumption | (apply bl_then; assumption) | refine bl_alloc ?_ _ | refine bl_drew ?_ | refine bl_drewN ?_ _))
    go_wp2_with (refine wpList_store_blk hR rfl _ _ _ rfl rfl rfl (by rfl) (by kernel_rfl) (by kernel_rfl) ?_; intro w4 hR4 hc4; have fR4 := hR4.facts)
    have hb4 : Below w.heap.size w w4 := ((Chg.of_below hbw).trans (hc4.mono (S' := [w.heap.size + 1]) (by simp))).below (by simp) (Nat.le_refl _)
    refine bodyPost_ret (v := .tuple #[.agg #[.int .i64 0, .int .i64 0, .int .i64 0, .int .i64 0], .int .i64 (barE x y s)]) (by simp [results, Tryz.results67, go_sem, fR4]) rfl ?_
    exact ⟨by rw [HS.out], hb4⟩
/-- the first error of a net and a bar -/
def hasE (l : List Bar) (x y s : Int) : Int := firstI [netE l, barE x y s]
def hasR (l : List Bar) (x y s : Int) : Bool := decide (hasE l x y s = 0) && hasb l (x, y, s)
theorem apiHas_any {v : Value} (l : List Bar) (x y s : Int) (w : World) (h : SlB w v l) : Calls Tryz.prog 69 #[v, .agg #[.int .i64 x, .int .i64 y, .int .i64 s]] w (RV w (.tuple #[.bool (hasR l x y s), .int .i64 (hasE l x y s)])) := by
  have hB := Blk.new w 60 #[.int .i64 x, .int .i64 y, .int .i64 s]
  have h0 := h.alloc (.cells #[.int .i64 x, .int .i64 y, .int .i64 s] 60)
  have fB := hB.facts
  by_cases hE : hasE l x y s = 0
  · have hz : netE l = 0 := (firstI_zero hE).1
    have hok := netE_ok hz
    have HS : Hid (hasR l x y s = hasb l (x, y, s) ∧ hasE l x y s = 0) := by unfold Hid hasR; rw [hE]; exact ⟨by simp, rfl⟩
    have hF : ∀ A c W, Rd ic 1 W A [netE l, barE x y s] → Calls Tryz.prog 83 #[.slice A 2 c] W (RV W (.int .i64 0)) := fun A c W hr => by
      have := nfirst_any [netE l, barE x y s] A c W (by simp [maxLen]) hr
      rwa [show firstI [netE l, barE x y s] = 0 from hE] at this
    clear hE hz
    go_enter Tryz.func69, Tryz.ntmps69
    go_wp2
    refine wp_region_ords [0, 2] [(1, false)] [3, 4, 5, 6] (by kernel_rfl) (by kernel_rfl) (fun d _ _ _ _ h => by cases d <;> exact h) ?_
    simp only [List.map_cons, List.map_nil, List.getD_cons_zero, List.getD_cons_succ]
    repeat (go_big_quiet_step (fail))
    refine wpQuiet_nil ?_
    refine wpMid_run rfl (fun K hK => ?_)
    go_simp
    refine (nnet_sl l _ (h0.below (by (repeat (first | exact bl_refl | assumption | (apply bl_then; assumption) | refine bl_alloc ?_ _ | refine bl_drew ?_ | refine bl_drewN ?_ _))))).mono ?_
    rintro e w1 ⟨rfl, hb1⟩
    refine hK _ _ (by (repeat (first | exact bl_refl | assumption | (apply bl_then; assumption) | refine bl_alloc ?_ _ | refine bl_drew ?_ | refine bl_drewN ?_ _))) ?_
    clear hK K
    have hB_w1 := hB.below (show Below _ _ w1 by (repeat (first | exact bl_refl | assumption | (apply bl_then; assumption) | refine bl_alloc ?_ _ | refine bl_drew ?_ | refine bl_drewN ?_ _)))
    have fhB_w1 := hB_w1.facts
    refine wpMid_nil ?_
    have h1 := h0.below (show Below _ _ w1 by (repeat (first | exact bl_refl | assumption | (apply bl_then; assumption) | refine bl_alloc ?_ _ | refine bl_drew ?_ | refine bl_drewN ?_ _)))
    go_wp2_with (first | (go_at_call 65; refine (nbar_any x y s _).mono ?_; rintro e w2 ⟨rfl, hb2⟩; have hB2 := hB_w1.below hb2; have fB2 := hB2.facts) | (go_at_call 83; go_must (refine (hF _ _ _ (Rd.ints2 (by simp) (by go_simp) (by go_simp))).mono ?_); rintro e w3 ⟨rfl, hb3⟩; have hB3 := ((hB2.alloc (.cells #[.int .i64 (netE l), .int .i64 (barE x y s)] 27)).below hb3); have fB3 := hB3.facts))
    have h3 := (h1.below hb2).below (show Below _ _ w3 by (repeat (first | exact bl_refl | assumption | (apply bl_then; assumption) | refine bl_alloc ?_ _ | refine bl_drew ?_ | refine bl_drewN ?_ _)))
    refine (nhas_any l x y s _ h3 hok.sorted (by have := hok.len; omega)).mono ?_
    rintro e w4 ⟨rfl, hb4⟩
    go_wp2
    go_ret2
    exact ⟨by rw [HS.out.1, HS.out.2]; rfl, by (repeat (first | exact bl_refl | assumption | (apply bl_then; assumption) | refine bl_alloc ?_ _ | refine bl_drew ?_ | refine bl_drewN ?_ _))⟩
  · have HS : Hid (hasR l x y s = false) := by unfold Hid hasR; simp [hE]
    have hE' : (hasE l x y s != 0) = true := by simpa using hE
    have hF : ∀ A c W, Rd ic 1 W A [netE l, barE x y s] → Calls Tryz.prog 83 #[.slice A 2 c] W (RV W (.int .i64 (hasE l x y s))) := fun A c W hr => nfirst_any [netE l, barE x y s] A c W (by simp [maxLen]) hr
    clear hE
    go_enter Tryz.func69, Tryz.ntmps69
    go_wp2
    refine wp_region_ords [0, 2] [(1, false)] [3, 4, 5, 6] (by kernel_rfl) (by kernel_rfl) (fun d _ _ _ _ h => by cases d <;> exact h) ?_
    simp only [List.map_cons, List.map_nil, List.getD_cons_zero, List.getD_cons_succ]
    repeat (go_big_quiet_step (fail))
    refine wpQuiet_nil ?_
    refine wpMid_run rfl (fun K hK => ?_)
    go_simp
    refine (nnet_sl l _ (h0.below (by (repeat (first | exact bl_refl | assumption | (apply bl_then; assumption) | refine bl_alloc ?_ _ | refine bl_drew ?_ | refine bl_drewN ?_ _))))).mono ?_
    rintro e w1 ⟨rfl, hb1⟩
    refine hK _ _ (by (repeat (first | exact bl_refl | assumption | (apply bl_then; assumption) | refine bl_alloc ?_ _ | refine bl_drew ?_ | refine bl_drewN ?_ _))) ?_
    clear hK K
    have hB_w1 := hB.below (show Below _ _ w1 by (repeat (first | exact bl_refl | assumption | (apply bl_then; assumption) | refine bl_alloc ?_ _ | refine bl_drew ?_ | refine bl_drewN ?_ _)))
    have fhB_w1 := hB_w1.facts
    refine wpMid_nil ?_
    go_wp2_with (first | (go_at_call 65; refine (nbar_any x y s _).mono ?_; rintro e w2 ⟨rfl, hb2⟩) | (go_at_call 83; go_must (refine (hF _ _ _ (Rd.ints2 (by simp) (by go_simp) (by go_simp))).mono ?_); rintro e w3 ⟨rfl, hb3⟩))
    go_ret2
    exact ⟨by rw [HS.out]; rfl, by (repeat (first | exact bl_refl | assumption | (apply bl_then; assumption) | refine bl_alloc ?_ _ | refine bl_drew ?_ | refine bl_drewN ?_ _))⟩
theorem arL_get (x y : Int) {n : Nat} (hn : n < 4) : ([arB (x, y) 0, arB (x, y) 1, arB (x, y) 2, arB (x, y) 3] : List Bar)[n]? = some (arB (x, y) n) := by
  obtain rfl | rfl | rfl | rfl : n = 0 ∨ n = 1 ∨ n = 2 ∨ n = 3 := by omega
  all_goals rfl
theorem raround_any (x y : Int) (hx : -200000 ≤ x ∧ x ≤ 200000) (hy : -200000 ≤ y ∧ y ≤ 200000) (w : World) : Calls Tryz.prog 71 #[.agg #[.int .i64 x, .int .i64 y]] w (RB w (arL (x, y) 4)) := by
  have hB := Blk.new w 23 #[.int .i64 x, .int .i64 y]
  have fB := hB.facts
  have hM := own_new (w.alloc (.cells #[.int .i64 x, .int .i64 y] 23)) (base := w.heap.size) (by simp) [arB (x, y) 0, arB (x, y) 1, arB (x, y) 2, arB (x, y) 3] (by simp) _ rfl 4 rfl
  rw [World.size_alloc] at hM
  have hg := fun n (hn : n < 4) => arL_get x y hn
  obtain ⟨M, hMM⟩ : ∃ M, [arB (x, y) 0, arB (x, y) 1, arB (x, y) 2, arB (x, y) 3] = M := ⟨_, rfl⟩
  have hMl : M.length = 4 := by rw [← hMM]; rfl
  have HG : Hid (∀ n, n < 4 → M[n]? = some (arB (x, y) n)) := fun n hn => by rw [← hMM]; exact hg n hn
  have hM2 : SlB ((w.alloc (.cells #[.int .i64 x, .int .i64 y] 23)).alloc (.cells #[.int .i64 (x - 1), .int .i64 (y - 1), .int .i64 1, .int .i64 (x + 1), .int .i64 (y - 1), .int .i64 (-1), .int .i64 x, .int .i64 y, .int .i64 (-1), .int .i64 x, .int .i64 y, .int .i64 1] 60)) (.slice (some ⟨w.heap.size + 1, 0, none⟩) 4 4) M := by
    rw [← hMM]; exact hM.rd bc_len
  clear hM hMM hg
  have hbM : Below w.heap.size w ((w.alloc (.cells #[.int .i64 x, .int .i64 y] 23)).alloc (.cells #[.int .i64 (x - 1), .int .i64 (y - 1), .int .i64 1, .int .i64 (x + 1), .int .i64 (y - 1), .int .i64 (-1), .int .i64 x, .int .i64 y, .int .i64 (-1), .int .i64 x, .int .i64 y, .int .i64 1] 60)) := by (repeat (first | exact bl_refl | assumption | (apply bl_then; assumption) | refine bl_alloc ?_ _ | refine bl_drew ?_ | refine bl_drewN ?_ _))
  go_enter Tryz.func71, Tryz.ntmps71
  go_wp2
  obtain ⟨wM, hwM⟩ : ∃ X, (w.alloc (.cells #[.int .i64 x, .int .i64 y] 23)).alloc (.cells #[.int .i64 (x - 1), .int .i64 (y - 1), .int .i64 1, .int .i64 (x + 1), .int .i64 (y - 1), .int .i64 (-1), .int .i64 x, .int .i64 y, .int .i64 (-1), .int .i64 x, .int .i64 y, .int .i64 1] 60) = X := ⟨_, rfl⟩
  rw [hwM] at hM2 hbM ⊢
  obtain ⟨A0, c0, he0, hlc0, hcm0, hr0⟩ := hM2
  obtain ⟨rfl, rfl⟩ : some ⟨w.heap.size + 1, 0, none⟩ = A0 ∧ 4 = c0 := by simp only [Value.slice.injEq] at he0; exact ⟨he0.1, he0.2.2⟩
  clear he0 hwM fB hB
  go_loopw [4, 5] (fun o i wr => ∃ n : Nat, n ≤ 4 ∧ i = .int .i64 n ∧ OwB wM.heap.size wr o (arL (x, y) n) ∧ Below wM.heap.size wM wr) (fun _ i _ => 4 - (intOf i).toNat)
  case atStart => exact ⟨0, by omega, rfl, Own.nil_, by (repeat (first | exact bl_refl | assumption | (apply bl_then; assumption) | refine bl_alloc ?_ _ | refine bl_drew ?_ | refine bl_drewN ?_ _))⟩
  case round =>
    obtain ⟨n, hn, rfl, hO, hbw⟩ := hrel
    obtain ⟨wo, rfl⟩ : ∃ x, x = wr := ⟨_, rfl⟩
    by_cases hn4 : n < 4
    · have hr := hr0.below hbw
      have hll := arL_len (x, y) n
      have HD : Hid (arL (x, y) (n + 1) = arL (x, y) n ++ if okB (arB (x, y) n) then [arB (x, y) n] else []) := rfl
      have hMn : n < M.length := by omega
      have hMg : M[n] = arB (x, y) n := by
        have := HG.out n hn4
        rw [List.getElem?_eq_getElem hMn] at this
        exact Option.some.inj this
      obtain ⟨hb, z0, z1, z2⟩ := hr.barAt hMn
      rw [hMg] at z0 z1 z2
      obtain ⟨⟨bx, bY, bs⟩, hbb⟩ : ∃ z, arB (x, y) n = z := ⟨_, rfl⟩
      rw [hbb] at HD z0 z1 z2
      have HMg := Lib.hid (hMg.trans hbb)
      simp only [Nat.zero_add] at z0 z1 z2
      obtain ⟨ev, hev⟩ : ∃ q, barE bx bY bs = q := ⟨_, rfl⟩
      have hc := fun W => rbar_any bx bY bs W
      rw [hev] at hc
      have HO : Hid (okB (bx, bY, bs) = decide (ev = 0)) := by unfold Hid okB; simp only; rw [hev]
      clear hbb hev hMg
      by_cases hz : ev = 0
      · have HD2 : Hid (arL (x, y) (n + 1) = arL (x, y) n ++ [(bx, bY, bs)]) := by unfold Hid; rw [HD.out, HO.out, if_pos (by simpa using hz)]
        subst hz
        clear HD HO
        go_wp2_with fail
        refine (hc _).mono ?_
        rintro e w3 ⟨rfl, hb3⟩
        have hO3 := hO.below hb3
        have hbw3 := bl_then hb3 hbw
        obtain ⟨hb', y0, y1, y2⟩ := (hr0.below hbw3).barAt hMn
        rw [HMg.out] at y0 y1 y2
        simp only [Nat.zero_add] at y0 y1 y2
        go_wp2_with (at_builtin; refine wpList_appB1 hO3 rfl _ _ rfl rfl rfl (by simp) (by omega) hbw3.size ?_; intro v6 w6 hown6 hgr6)
        have hb6 := own_step hO3 hgr6 (by (repeat (first | exact bl_refl | assumption | (apply bl_then; assumption) | refine bl_alloc ?_ _ | refine bl_drew ?_ | refine bl_drewN ?_ _)))
        clear hgr6
        go_wp2
        go_roundw
        case rel => exact ⟨n + 1, by omega, by go_num, by rw [HD2.out]; exact hown6, hb6⟩
        case measure => simp [intOf]; omega
      · have HD2 : Hid (arL (x, y) (n + 1) = arL (x, y) n) := by unfold Hid; rw [HD.out, HO.out, if_neg (by simpa using hz), List.append_nil]
        have hz' : (ev == 0) = false := by simp [hz]
        clear HD HO hz
        go_wp2_with fail
        refine (hc _).mono ?_
        rintro e w3 ⟨rfl, hb3⟩
        have hO3 := hO.below hb3
        go_wp2
        go_roundw
        case rel => exact ⟨n + 1, by omega, by go_num, by rw [HD2.out]; exact hO3, bl_then hb3 hbw⟩
        case measure => simp [intOf]; omega
    · have hn4' : n = 4 := by omega
      subst hn4'
      go_wp2
      go_ret
      exact ⟨_, rfl, hO.base_mono hbM.size, bl_then hbw hbM⟩
end Go.Proofs.YtkmjcoofkgpanaaGreatDoor

/- Outlines, walked. Conditions: bounds. -/
import Derived.Test.YtpcgeihemkhkjaaGreatDoorR10
import Derived.Test.YtpcgeihemkhkjaaGreatDoorR07
namespace Go.Proofs.YtpcgeihemkhkjaaGreatDoor
open Go.RowKit Go.ChangeMaps
set_option maxHeartbeats 4000000
set_option maxRecDepth 100000
attribute [local go_sem] Oper.semAt_some
instance {B : Nat} {w : World} : Nonempty (BelM B w fun _ => True) := ⟨⟨w, Below.refl _ _, trivial⟩⟩
def sideOk (l : List Edg) : Prop := (stpL l).length ≤ 512 ∧ l.length ≤ 100000 ∧ ∀ e ∈ l, 0 ≤ e.2.1 ∧ e.2.1 ≤ 64 ∧ e.1.length ≤ 64
theorem outline_any {vL vR : Value} (p : Pan) (right : Bool) (w : World) (hL : SlE w vL p.2.2.1) (hR : SlE w vR p.2.2.2) (hw : -1000 ≤ p.2.1 ∧ p.2.1 ≤ 1000) (hs : sideOk (sideP p right)) :
  Calls Tryz.prog 181 #[.agg #[sV p.1, .int .i64 p.2.1, vL, vR], .bool right] w (RK w (outP p right)) := by
 obtain ⟨nm, wd, L, R⟩ := p
 simp only at hL hR hw
 obtain ⟨AL, cL, rfl, hlL, hmL, hrL⟩ := hL
 obtain ⟨AR, cR, rfl, hlR, hmR, hrR⟩ := hR
 unfold sV
 have hP := (Blk.new w 97 #[.string ⟨nm.toArray⟩, .int .i64 wd, .slice AL L.length cL, .slice AR R.length cR]).alloc (.cells #[.bool right] 4)
 have hQ := Blk.new1 w (.cells #[.string ⟨nm.toArray⟩, .int .i64 wd, .slice AL L.length cL, .slice AR R.length cR] 97) 4 #[.bool right]
 refine (callsIn_wide (n := 6)).1 ?_
 refine callsIn_of_wp_marks Tryz.func181 rfl trivial ?_ rfl
 simp only [Tryz.ntmps181, List.size_toArray, List.length_cons, List.length_nil, Nat.reduceAdd, Nat.reduceSub, Array.replicate_succ, Array.replicate_zero, List.push_toArray, List.append_toArray, List.nil_append, List.cons_append]
 gi_upto_region 1 with fail
 obtain ⟨w1, hw1⟩ : ∃ X, (w.alloc (.cells #[.string ⟨nm.toArray⟩, .int .i64 wd, .slice AL L.length cL, .slice AR R.length cR] 97)).alloc (.cells #[.bool right] 4) = X := ⟨_, rfl⟩
 have hb1 : Below w.heap.size w w1 := by rw [← hw1]; exact bl_alloc (bl_alloc bl_refl _) _
 have HZ1 : Hid (w1.heap.size = w.heap.size + 2) := by rw [← hw1]; simp [Hid]
 rw [hw1] at hP hQ ⊢
 clear hw1
 have fP := hP.facts
 have fQ := hQ.facts
 refine wpIn_noPanic ?_
 refine wpIn_region_ords [0, 1, 2] [(3, false), (4, false)] [5] (fun _ => trivial) (by kernel_rfl) (by kernel_rfl) (by kernel_rfl) (fun _ _ _ _ _ h => h) ?_
 simp only [List.map_cons, List.map_nil, List.getD_cons_zero, List.getD_cons_succ]
 repeat (go_big_quiet_step (fail))
 refine wpQuiet_nil ?_
 refine wpMidI_run rfl (fun K hK => ?_)
 go_simp
 refine hK _ _ (by (repeat first|exact J0|assumption|(apply J1;assumption)|apply J2|apply J3|apply J4)) ?_
 clear hK K
 have hA := Blk.new w1 90 #[.int .i64 0, .int .i64 0]
 refine wpMidI_run rfl (fun K hK => ?_)
 refine opI_store_blk hA.drew _ _ _ rfl rfl rfl rfl (by kernel_rfl) (by kernel_rfl) ?_
 intro w3 hA3 hc3
 have hb13 : Below w1.heap.size w1 w3 := chg_bl (bl_drew (bl_alloc bl_refl _)) hc3 (Nat.le_refl _)
 refine hK _ _ hb13 ?_
 clear hK K hA hc3
 refine wpMidI_nil ?_
 have hP3 := hP.below hb13
 have hQ3 := hQ.below hb13
 have hQ1 := hQ
 clear fP fQ hP hQ
 have fQ := hQ3.facts
 gi_wp2_with fail
 simp only [noPanic]
 gi_upto_if 12 with fail
 gi_cut [5, 6] from 9 (fun s5 s6 wx => ∃ A c, s5 = .pointer (some ⟨w1.heap.size, 0, none⟩) ∧ s6 = .slice A (sideP (nm, wd, L, R) right).length c ∧ Rd ec 3 w A (sideP (nm, wd, L, R) right) ∧ Blk wx w1.heap.size 90 #[.int .i64 (fromP (nm, wd, L, R) right).1, .int .i64 (fromP (nm, wd, L, R) right).2] ∧ Below w1.heap.size w1 wx)
 case first =>
  cases right
  ·gi_wp2
   gi_meet
   case rel => exact ⟨AL, cL, rfl, rfl, hrL, hA3, hb13⟩
  ·have fP := hP3.facts
   have z1 : w.heap.size < w1.heap.size := by have := HZ1.out; omega
   gi_upto_region 3 with fail
   refine wpIn_noPanic ?_
   refine wpIn_region_ordm (w1.heap.size) (fun _ => True) [0, 1, 2, 3, 4, 5] [(6, false)] [7] (fun _ => trivial) (by kernel_rfl) (by kernel_rfl) (by kernel_rfl) (fun _ _ _ _ _ h => h) trivial ?_
   simp only [List.map_cons, List.map_nil, List.getD_cons_zero, List.getD_cons_succ]
   repeat (go_big_quiet_step (fail))
   refine wpQuiet_nil ?_
   refine wpMidI_runm rfl (fun K hK => ?_)
   refine opI_store_blk hA3.drew _ _ _ rfl rfl rfl rfl (by kernel_rfl) (by kernel_rfl) ?_
   intro w4 hA4 hc4
   have hb34 : Below w1.heap.size w3 w4 := ((Chg.of_below (bl_drew bl_refl)).trans hc4).below (by simp) hb13.size
   refine hK _ _ hb34 trivial ?_
   clear hK K
   refine wpMidI_nil ?_
   gi_wp2_with fail
   simp only [noPanic]
   gi_wp2
   gi_meet
   case rel => exact ⟨AR, cR, rfl, rfl, hrR, hA4, hb13.trans hb34⟩
 case rest =>
  obtain ⟨A, c, rfl, rfl, hrS, hAc, hbc⟩ := hcut
  obtain ⟨S, hS⟩ : ∃ S, sideP (nm, wd, L, R) right = S := ⟨_, rfl⟩
  rw [hS] at hrS hs ⊢
  have HO : Hid (outP (nm, wd, L, R) right = outK right (fromP (nm, wd, L, R) right) (stpL S)) := by unfold Hid outP; rw [hS]
  have hfr : -2000 ≤ (fromP (nm, wd, L, R) right).1 ∧ (fromP (nm, wd, L, R) right).1 ≤ 2000 ∧ 0 ≤ (fromP (nm, wd, L, R) right).2 ∧ (fromP (nm, wd, L, R) right).2 ≤ 2000 := by
   unfold fromP
   cases right <;> simp <;> omega
  obtain ⟨⟨fx, fy⟩, hF⟩ : ∃ z, fromP (nm, wd, L, R) right = z := ⟨_, rfl⟩
  rw [hF] at hAc hfr HO
  simp only at hAc hfr
  obtain ⟨hs1, hs2, hs3⟩ := hs
  have hQc : Blk wc (w.heap.size + 1) 4 #[.bool right] := hQ1.below hbc
  have hbw : Below w.heap.size w wc := hb1.trans (hbc.mono hb1.size)
  have fA := hAc.facts
  have hKn : OwK wc.heap.size (wc.alloc (.cells #[.int .i64 fx, .int .i64 fy] 90)) (.slice (some ⟨wc.heap.size, 0, none⟩) 1 1) [(fx, fy)] :=
   ⟨rfl, .inr ⟨wc.heap.size, 1, _, rfl, Nat.le_refl _, heap_alloc_new wc _, Nat.le_refl _, by simp [maxLen], rfl, rfl⟩⟩
  have hOut := Blk.new1 wc (.cells #[.int .i64 fx, .int .i64 fy] 90) 209 #[.slice (some ⟨wc.heap.size, 0, none⟩) 1 1]
  replace hKn := hKn.alloc (.cells #[.slice (some ⟨wc.heap.size, 0, none⟩) 1 1] 209)
  gi_upto_region 5 with fail
  obtain ⟨w5, hw5⟩ : ∃ X, (wc.alloc (.cells #[.int .i64 fx, .int .i64 fy] 90)).alloc (.cells #[.slice (some ⟨wc.heap.size, 0, none⟩) 1 1] 209) = X := ⟨_, rfl⟩
  have hb5 : Below wc.heap.size wc w5 := by rw [← hw5]; exact bl_alloc (bl_alloc bl_refl _) _
  have hsz5 : w5.heap.size = wc.heap.size + 2 := by rw [← hw5]; simp
  rw [hw5] at hKn hOut ⊢
  clear hw5 fA
  have hA5 := hAc.below hb5
  have hQ5 := hQc.below hb5
  have hbw5 := bl_then hb5 hbw
  have hrS5 := hrS.below hbw5
  have hz1 := HZ1.out
  have hzc := hbc.size
  have hzd : w.heap.size + 2 < wc.heap.size := by have := hAc.lt; omega
  have hw0 : ∀ b off, A = some ⟨b, off, none⟩ → 0 < S.length → b < w.heap.size := fun b off e h => by
   obtain ⟨b', off', e', hlt, _⟩ := hrS 0 _ (List.getElem?_eq_getElem h)
   rw [e] at e'
   cases e'
   exact hlt
  gi_wp2_with (refine ⟨trivial, ?_⟩; gi_at_call 211; refine (callsIn_wide.2 (letters_any A S.length c _)).mono ?_; rintro e w6 ⟨rfl, rfl⟩)
  have hL6 := Blk.new w5 95 #[.slice A S.length c]
  have hb6 : Below w5.heap.size w5 (w5.alloc (.cells #[.slice A S.length c] 95)) := bl_alloc bl_refl _
  obtain ⟨w6, hw6⟩ : ∃ X, w5.alloc (.cells #[.slice A S.length c] 95) = X := ⟨_, rfl⟩
  have hsz6 : w6.heap.size = wc.heap.size + 3 := by rw [← hw6]; simp; omega
  rw [hw6] at hL6 hb6 ⊢
  clear hw6
  have hA6 := hA5.below hb6
  have hQ6 := hQ5.below hb6
  have hO6 := hOut.below hb6
  have hK6 := hKn.below hb6
  have hr6 := hrS5.below hb6
  have hbw6 := bl_then hb6 hbw5
  rw [hsz5] at hL6
  rw [hz1] at hA6 hzc
  clear hA5 hQ5 hOut hKn hrS5 hbw5 hb6 hb5 hQc hQ1 hQ3 hP3 hA3 hAc fQ hbc hb13 hbw hrS
  refine wpIn_rangeFunc_ownH rfl (by omega) (gf := 239) (lb := #[.pointer (some ⟨wc.heap.size + 2, 0, none⟩)]) rfl trivial (enters_of Tryz.func239 (by kernel_rfl) rfl)
   (letters_stops 5 (by omega) [w.heap.size + 2, wc.heap.size + 1] wc.heap.size (wc.heap.size + 2) A c S (by omega) hs2 hs3 w6 (fun b off e h => by have := hw0 b off e h; simp; omega) hL6 hr6) keepT_t (keepT_b (by omega)) (Below.refl _ _) (fun _ => rfl)
   (fun pre W => Blk W (w.heap.size + 2) 90 #[.int .i64 (posK right (fx, fy) pre).1, .int .i64 (posK right (fx, fy) pre).2] ∧ (∃ u, Blk W (wc.heap.size + 1) 209 #[u] ∧ OwK wc.heap.size W u (outK right (fx, fy) pre)) ∧ Blk W (w.heap.size + 1) 4 #[.bool right] ∧ Below w.heap.size w W ∧ w6.heap.size ≤ W.heap.size)
   (fun _ _ _ => False)
   (fun _ W W' row hs hg hr => by
    obtain ⟨h1, ⟨u, h2, h3⟩, h4, h5, h6⟩ := hs
    exact ⟨h1.grown hg (nc_blk h1 hr), ⟨u, h2.grown hg (nc_blk h2 hr), h3.kept hg (nc_own h3 hr)⟩, h4.grown hg (nc_blk h4 hr), bl_grown hg h5 (fun k e => by have := (hr k e).1; omega), Nat.le_trans h6 hg.size⟩)
   (fun _ _ _ _ _ hs _ _ => hs)
   ⟨hA6, ⟨_, hO6, hK6⟩, hQ6, hbw6, Nat.le_refl _⟩
   (fun x a' W => ∃ Bk, Blk W Bk 286 #[.int .u8 x.1.toNat, .bool x.2] ∧ w6.heap.size ≤ Bk ∧ a' = { tmps := #[.agg #[.string ⟨nm.toArray⟩, .int .i64 wd, .slice AL L.length cL, .slice AR R.length cR], .bool right, .pointer (some ⟨w.heap.size, 0, none⟩), .pointer (some ⟨w.heap.size + 1, 0, none⟩), .slice none 0 0, .pointer (some ⟨w.heap.size + 2, 0, none⟩), .slice A S.length c, .pointer (some ⟨wc.heap.size + 1, 0, none⟩), .pointer (some ⟨Bk, 0, none⟩), u9, u10, u11, u12, u13, u14, u15, u16, u17, u18, .agg #[.int .i64 fx, .int .i64 fy], .slice (some ⟨wc.heap.size, 0, none⟩) 1 1, .slice A S.length c, .func (.func 239) #[] #[.pointer (some ⟨wc.heap.size + 2, 0, none⟩)], .agg #[.int .u8 x.1.toNat, .bool x.2], u24, u25, u26, u27, u28, u29, u30, u31, u32, u33, u34, u35, u36], defers := [] })
   (fun x a' s W W' row hs hg hr => by
    obtain ⟨Bk, hX, hk, rfl⟩ := hs
    exact ⟨Bk, hX.grown hg (nc_blk hX hr), hk, rfl⟩) ?assign ?body ?done ?stop
  case assign =>
   rintro l pre x W K ⟨h1, ⟨u, h2, h3⟩, h4, h5, h6⟩ hK
   unfold encY
   gi_wp2
   have hb2 : Below W.heap.size W (W.alloc (.cells #[.int .u8 x.1.toNat, .bool x.2] 286)) := bl_alloc bl_refl _
   exact hK _ _ (keeps_of_below hb2) (KeepT.of_below hb2 (by omega)) ⟨h1.below hb2, ⟨u, h2.below hb2, h3.below hb2⟩, h4.below hb2, bl_then hb2 h5, Nat.le_trans h6 hb2.size⟩ ⟨W.heap.size, Blk.new W _ _, h6, rfl⟩
  case body =>
   rintro l pre x a' W _ _ ⟨h1, ⟨u, h2, h3⟩, h4, h5, h6⟩ ⟨Bk, hX, hk, rfl⟩ hlt
   have hnear := end_near (right := right) (n := 2000) pre (k := (fx, fy)) ⟨by simp only; omega, by simp only; omega, by simp only; omega, by simp only; omega⟩
   have HS : Hid (posK right (fx, fy) (pre ++ [x]) = aft (posK right (fx, fy) pre) x.1 (x.2 == right)) := by unfold Hid; rw [posK_snoc]; rfl
   have HW := Lib.hid (outK_snoc right pre (fx, fy) x)
   obtain ⟨⟨px, py⟩, hp⟩ : ∃ z, posK right (fx, fy) pre = z := ⟨_, rfl⟩
   rw [hp] at h1 hnear HS
   simp only at h1 hnear
   clear hp
   have hAf := fun W => after_any px py x.1 (x.2 == right) (by omega) (by omega) W
   obtain ⟨⟨qx, qy⟩, hq⟩ : ∃ z, aft (px, py) x.1 (x.2 == right) = z := ⟨_, rfl⟩
   rw [hq] at hAf HS
   simp only at hAf
   clear hq
   obtain ⟨P, hP⟩ : ∃ P, outK right (fx, fy) pre = P := ⟨_, rfl⟩
   have hPl : P.length ≤ 1000000 := by rw [← hP, outK_len]; omega
   rw [hP, HS.out] at HW
   rw [hP] at h3
   clear hP
   obtain ⟨Au, cu, rfl⟩ := h3.shape
   have f1 := h1.facts
   have fX := hX.facts
   have f4 := h4.facts
   gi_upto_region 8 with (first | (refine ⟨trivial, ?_⟩; gi_at_call 212; refine (CallsIn.inRound _ (callsIn_wide.2 (hAf _))).mono ?_; rintro e w7 ⟨rfl, hb7⟩; have h17 := h1.below hb7; have h27 := h2.below hb7) | (refine wpListIn_store_blk h17 rfl _ _ _ rfl rfl rfl (by rfl) (by kernel_rfl) (by kernel_rfl) ?_; intro w8 h18 hc8))
   have h28 := h27.chg hc8 (by simp; omega)
   have h38 := (h3.below hb7).chg hc8 (by simp; omega)
   have h48 := (h4.below hb7).chg hc8 (by simp)
   have h58 := chg_bl (bl_then hb7 h5) hc8 (by omega)
   have hz7 := hb7.size
   have hz8 : w6.heap.size ≤ w8.heap.size := Nat.le_trans h6 (Nat.le_trans hz7 hc8.size)
   have k8 : KeepsFrom w6.heap.size W w8 := (keeps_of_below hb7).trans (keeps_chg h17 hc8)
   have t8 : KeepT 133 [w.heap.size + 2, wc.heap.size + 1] wc.heap.size W w8 := (KeepT.of_below hb7 (by omega)).trans (KeepT.of_chg hc8 (by simp) h17 (by decide) (by omega))
   have f18 := h18.facts
   have f28 := h28.facts
   have hal : Below w8.heap.size w8 (w8.alloc (.cells #[.int .i64 qx, .int .i64 qy] 90)) := bl_alloc bl_refl _
   gi_wp2_with (gi_at_builtin; refine wpListIn_appK1 h38 rfl _ _ rfl rfl rfl rfl (by omega) (by omega) ?_; intro v9 w9 h39 hg9; obtain ⟨A9, c9, rfl⟩ := h39.shape; have h29 := (h28.below hal).grown hg9 (h38.ne_blk h28 (by decide)); have f9 := h29.facts)
   have hz9 := hg9.size
   have h19 := (h18.below hal).grown hg9 (fun e => by have := (h38.lt _ e.symm).1; omega)
   have h49 := (h48.below hal).grown hg9 (h38.ne_blk h48 (by decide))
   have h59 : Below w.heap.size w w9 := bl_grown hg9 (bl_then hal h58) (fun k e => by have := (h38.lt k e).1; omega)
   refine ⟨k8.trans ((keeps_of_below hal).trans ((keeps_grown (h38.alloc _) hg9).trans (keeps_set h29 0 _))),
    t8.trans ((KeepT.of_below hal (by omega)).trans ((KeepT.of_grown (h38.alloc _) (by decide) hg9 (by simp; omega) (fun k e => (h38.lt k e).1)).trans (KeepT.of_set (by simp) h29 (by decide)))), ?_, ⟨_, h29.set_ 0 _, ?_⟩, ?_, ?_, ?_⟩
   ·rw [HS.out]
    exact h19.far (p := ⟨wc.heap.size + 1, 0, none⟩) (by simp; omega) _
   ·rw [HW.out]
    have := h39.set (p := ⟨wc.heap.size + 1, 0, none⟩) (Ne.symm (h39.ne_blk h29 (by decide))) (.slice A9 (P ++ [(qx, qy)]).length c9)
    simpa using this
   ·exact h49.far (p := ⟨wc.heap.size + 1, 0, none⟩) (by simp; omega) _
   ·exact bl_set h59 (by simp; omega) _
   ·simp only [World.setCell]
    have := hal.size
    simp
    omega
  case done =>
   rintro D' ys W hD rfl ⟨h1, ⟨u, hu1, hu2⟩, h4, hbw, hs2⟩ hK
   have fo := hu1.facts
   gi_wp2
   refine ⟨by simp, .inl ⟨_, _, rfl, run_takeDeferred hK, ?_⟩⟩
   exact ⟨_, results_tmp rfl _ _ _, u, rfl, by rw [HO.out]; exact Own.base_mono (ownsRow_putObj hu2 _ hK rfl) (by omega), hbw.trans (belowK_b (w := w) (Nat.le_refl _) W D' _ _ (by omega) hK rfl rfl)⟩
  case stop =>
   rintro D' c pre W _ _ h _
   exact h.elim
def farX (k : Knot) : Bool := decide (k.1 < -4096) || decide (4096 < k.1)
theorem pfar_any (x y : Int) (w : World) : Calls Tryz.prog 184 #[.agg #[.int .i64 x, .int .i64 y]] w (RV w (.bool (farX (x, y)))) := by
 have hK := Blk.new w 90 #[.int .i64 x, .int .i64 y]
 have fhK := hK.facts
 by_cases h : x < -4096
 ·have HF : Hid (farX (x, y) = true) := by unfold Hid farX; simp [h]
  go_enter Tryz.func184, Tryz.ntmps184
  go_wp2
  go_ret
  exact ⟨by rw [HF.out]; rfl, by (repeat first|exact J0|assumption|(apply J1;assumption)|apply J2|apply J3|apply J4)⟩
 ·have HF : Hid (farX (x, y) = decide (4096 < x)) := by unfold Hid farX; simp [h]
  have t1 : (x < -4096) = False := eq_false h
  clear h
  go_enter Tryz.func184, Tryz.ntmps184
  go_wp2
  go_ret
  exact ⟨by rw [HF.out]; rfl, by (repeat first|exact J0|assumption|(apply J1;assumption)|apply J2|apply J3|apply J4)⟩
theorem top_any (l : List Knot) (A : Option Addr) (c : Nat) (w : World) (h : Rd kc 2 w A l) (hl : l.length ≤ 1000000) (x y : Int) (hx : l[l.length - 1]? = some (x, y)) : Calls Tryz.prog 182 #[.slice A l.length c] w (RV w (.agg #[.int .i64 x, .int .i64 y])) := by
 obtain ⟨hlt, he⟩ := List.getElem?_eq_some_iff.1 hx
 obtain ⟨b, off, rfl, hb, e0, e1⟩ := h.knot hlt
 rw [he] at e0 e1
 simp only at e0 e1
 obtain ⟨t, ht⟩ : ∃ t, l.length - 1 = t := ⟨_, rfl⟩
 have hlm : (l.length : Int) - 1 = (t : Int) := by omega
 have htl : t < l.length := by omega
 rw [ht] at e0 e1
 clear hx he ht hlt h
 go_enter Tryz.func182, Tryz.ntmps182
 go_wp2
 refine bodyPost_ret (v := .agg #[.int .i64 x, .int .i64 y]) (by simp [results, Tryz.results182, go_sem]) rfl ?_
 exact ⟨rfl, by (repeat first|exact J0|assumption|(apply J1;assumption)|apply J2|apply J3|apply J4)⟩
@[go_sem] theorem fldK1 (x y : Int) (w : World) : (Instr.field 90 (.agg #[.int .i64 x, .int .i64 y]) 1).run Tryz.prog w = .ok (.int .i64 y) w := by kernel_rfl
theorem out_last (p : Pan) (right : Bool) : (outP p right)[(outP p right).length - 1]? = some (posK right (fromP p right) (stpL (sideP p right))) := by
 unfold outP
 rw [outK_len]
 exact outK_last right _ _
theorem out_top (p : Pan) (right : Bool) : (posK right (fromP p right) (stpL (sideP p right))).2 = riseL (stpL (sideP p right)) := by
 rw [end_y]
 unfold fromP
 cases right <;> simp
theorem out_len (p : Pan) (right : Bool) (hs : sideOk (sideP p right)) : (outP p right).length ≤ 513 := by
 unfold outP
 rw [outK_len]
 have := hs.1
 omega
theorem height_any {vL vR : Value} (p : Pan) (w : World) (hL : SlE w vL p.2.2.1) (hR : SlE w vR p.2.2.2) (hw : -1000 ≤ p.2.1 ∧ p.2.1 ≤ 1000) (hs : sideOk p.2.2.1) :
  Calls Tryz.prog 219 #[.agg #[sV p.1, .int .i64 p.2.1, vL, vR]] w (RV w (.int .i64 (heightP p))) := by
 have HT : Hid ((posK false (fromP p false) (stpL (sideP p false))).2 = heightP p) := out_top p false
 have hl := out_last p false
 have hn := out_len p false hs
 obtain ⟨⟨tx, ty⟩, ht⟩ : ∃ z, posK false (fromP p false) (stpL (sideP p false)) = z := ⟨_, rfl⟩
 rw [ht] at hl HT
 have ho := fun W (hb : Below w.heap.size w W) => outline_any p false W (hL.below hb) (hR.below hb) hw hs
 obtain ⟨O, hO⟩ : ∃ O, outP p false = O := ⟨_, rfl⟩
 rw [hO] at hl hn ho
 have HL := Lib.hid hl
 obtain ⟨nm, wd, L, R⟩ := p
 obtain ⟨AL, cL, rfl, _, _, _⟩ := hL
 obtain ⟨AR, cR, rfl, _, _, _⟩ := hR
 unfold sV at ho ⊢
 simp only at ho
 have hP := Blk.new w 97 #[.string ⟨nm.toArray⟩, .int .i64 wd, .slice AL L.length cL, .slice AR R.length cR]
 have fP := hP.facts
 clear hl ht hO hw hs
 go_enter Tryz.func219, Tryz.ntmps219
 go_wp2_with fail
 refine (ho _ (by (repeat first|exact J0|assumption|(apply J1;assumption)|apply J2|apply J3|apply J4))).mono ?_
 rintro e w1 ⟨v1, rfl, hO1, hb1⟩
 obtain ⟨A1, c1, rfl⟩ := hO1.shape
 obtain ⟨_, _, he, _, _, hr1⟩ := hO1.rd kc_len
 obtain ⟨rfl, rfl⟩ : A1 = _ ∧ c1 = _ := by simpa using he
 go_wp2_with fail
 refine (top_any O _ _ _ hr1 (by omega) tx ty HL.out).mono ?_
 rintro e w2 ⟨rfl, hb2⟩
 go_wp2
 go_ret
 exact ⟨by rw [← HT.out]; rfl, by (repeat first|exact J0|assumption|(apply J1;assumption)|apply J2|apply J3|apply J4)⟩
end Go.Proofs.YtpcgeihemkhkjaaGreatDoor
namespace Go.Proofs.YtpcgeihemkhkjaaGreatDoor
open Go.RowKit Go.ChangeMaps
set_option maxHeartbeats 4000000
set_option maxRecDepth 100000
structure PanOk (p : Pan) : Prop where
 name : nameR p.1 = true
 wid : 1 ≤ p.2.1 ∧ p.2.1 ≤ 128
 left : SideOk p.2.2.1
 right : SideOk p.2.2.2
 same : riseL (stpL p.2.2.2) = heightP p
 high : 1 ≤ heightP p ∧ heightP p ≤ 256
 free : crossB (outP p false) (outP p true) ((heightP p).toNat + 1) = false
theorem SideOk.sideOk {l : List Edg} (h : SideOk l) : sideOk l :=
 ⟨h.len, by have := h.few; omega, fun e he => by
  obtain ⟨_, h2, _, h4, h5⟩ := edgE_zero (h.ok e he)
  exact ⟨by omega, h5, h2⟩⟩
theorem PanOk.side {p : Pan} (h : PanOk p) (right : Bool) : sideOk (sideP p right) := by
 cases right
 ·exact h.left.sideOk
 ·exact h.right.sideOk
theorem PanOk.wid' {p : Pan} (h : PanOk p) : -1000 ≤ p.2.1 ∧ p.2.1 ≤ 1000 := by
 have := h.wid
 omega
theorem PanOk.asc {p : Pan} (h : PanOk p) (right : Bool) : Asc (outP p right) := outP_asc p right h.wid' (h.side right).1
theorem heightP_range (p : Pan) : 0 ≤ heightP p ∧ heightP p ≤ 2 * (stpL p.2.2.1).length := riseL_range _
theorem panE0_zero {p : Pan} (h : panE0 p = 0) : nameR p.1 = true ∧ (1 ≤ p.2.1 ∧ p.2.1 ≤ 128) ∧ SideOk p.2.2.1 ∧ SideOk p.2.2.2 := by
 unfold panE0 at h
 simp only [firstI] at h
 split at h
 ·rename_i h1
  split at h
  ·rename_i h2
   split at h
   ·rename_i h3
    split at h
    ·rename_i h4
     refine ⟨?_, ?_, sideE_zero h3, sideE_zero h4⟩
     ·unfold whenI at h1
      split at h1
      ·omega
      ·rename_i q
       simpa using q
     ·unfold withinI whenI at h2
      split at h2
      ·omega
      ·rename_i q
       simp only [decide_eq_true_eq, Bool.or_eq_true, not_or] at q
       omega
    ·rename_i h4; exact absurd h h4
   ·rename_i h3; exact absurd h h3
  ·rename_i h2; exact absurd h h2
 ·rename_i h1; exact absurd h h1
theorem panE1_zero {p : Pan} (h : panE1 p = 0) : riseL (stpL p.2.2.2) = heightP p ∧ heightP p ≠ 0 ∧ heightP p ≤ 256 := by
 unfold panE1 at h
 simp only [firstI] at h
 split at h
 ·rename_i h1
  split at h
  ·rename_i h2
   split at h
   ·rename_i h3
    unfold whenI at h1 h2 h3
    split at h1
    ·omega
    ·split at h2
     ·omega
     ·split at h3
      ·omega
      ·rename_i q1 q2 q3
       simp only [decide_eq_true_eq] at q1 q2 q3
       omega
   ·rename_i h3; exact absurd h h3
  ·rename_i h2; exact absurd h h2
 ·rename_i h1; exact absurd h h1
theorem panE_zero {p : Pan} (h : panE p = 0) : PanOk p := by
 unfold panE at h
 split at h
 ·rename_i h0; exact absurd h h0
 ·rename_i h0
  split at h
  ·rename_i h1; exact absurd h h1
  ·rename_i h1
   obtain ⟨a1, a2, a3, a4⟩ := panE0_zero (by simpa using h0)
   obtain ⟨b1, b2, b3⟩ := panE1_zero (by simpa using h1)
   have := (heightP_range p).1
   refine ⟨a1, a2, a3, a4, b1, ⟨by omega, b3⟩, ?_⟩
   unfold whenI at h
   split at h
   ·omega
   ·rename_i q
    simpa using q
theorem out_top' (p : Pan) (right : Bool) (h : PanOk p) : (posK right (fromP p right) (stpL (sideP p right))).2 = heightP p := by
 rw [out_top]
 cases right
 ·rfl
 ·exact h.same
theorem out_end (p : Pan) (right : Bool) (h : PanOk p) : ∀ hi : (outP p right).length - 1 < (outP p right).length, (outP p right)[(outP p right).length - 1].2 = heightP p := by
 intro hi
 have := out_last p right
 rw [List.getElem?_eq_getElem hi] at this
 rw [Option.some.inj this, out_top' p right h]
def nearS (s : Strp) : Prop := (-100000 ≤ s.1 ∧ s.1 ≤ 100000) ∧ (-100000 ≤ s.2.1 ∧ s.2.1 ≤ 100000) ∧ (-100000 ≤ s.2.2.1 ∧ s.2.2.1 ≤ 100000) ∧ (-100000 ≤ s.2.2.2 ∧ s.2.2.2 ≤ 100000)
theorem plcGo_near (y : Int) : ∀ (r : List Knot) (k : Knot), (∀ x ∈ k :: r, -100000 ≤ x.1 ∧ x.1 ≤ 100000) → (-100000 ≤ (plcGo y k r).1 ∧ (plcGo y k r).1 ≤ 100000) ∧ (-100000 ≤ (plcGo y k r).2 ∧ (plcGo y k r).2 ≤ 100000)
 | [], k, _ => by simp [plcGo]
 | n :: r, k, h => by
  have hk := h k (by simp)
  have hn := h n (by simp)
  unfold plcGo
  split
  ·split
   ·exact ⟨hk, hn⟩
   ·exact ⟨hn, hn⟩
  ·exact plcGo_near y r n fun x hx => h x (List.mem_cons_of_mem _ hx)
theorem plcI_near {l : List Knot} (h : Asc l) (y : Int) : (-100000 ≤ (plcI l y).1 ∧ (plcI l y).1 ≤ 100000) ∧ (-100000 ≤ (plcI l y).2 ∧ (plcI l y).2 ≤ 100000) := by
 have hk : ∀ x ∈ l, -100000 ≤ x.1 ∧ x.1 ≤ 100000 := by
  intro k hk
  obtain ⟨i, hi, rfl⟩ := List.getElem_of_mem hk
  have := h.near i hi
  omega
 cases l with
 | nil => exact absurd h.ne (by simp)
 | cons k r => exact plcGo_near y r k hk
theorem strips_near {p : Pan} (h : PanOk p) : ∀ s ∈ strips p, nearS s := by
 intro s hs
 unfold strips at hs
 obtain ⟨y, _, rfl⟩ := List.mem_map.1 hs
 have h1 := plcI_near (h.asc false) (y : Nat)
 have h2 := plcI_near (h.asc true) (y : Nat)
 exact ⟨h1.1, h2.1, h1.2, h2.2⟩
theorem strips_len (p : Pan) : (strips p).length = (heightP p).toNat := by unfold strips; simp
theorem strips_le {p : Pan} (h : PanOk p) : (strips p).length ≤ 256 := by
 rw [strips_len]
 have := h.high
 omega
theorem areaS_snoc {l : List Strp} {k : Nat} (hk : k < l.length) : areaS (l.take (k + 1)) = areaS (l.take k) + (l[k].2.1 - l[k].1 + (l[k].2.2.2 - l[k].2.2.1)) := by
 unfold areaS
 rw [List.take_succ_eq_append_getElem hk, List.map_append, List.sum_append]
 simp only [List.map_cons, List.map_nil, List.sum_cons, List.sum_nil, Int.add_zero]
theorem areaS_near {l : List Strp} (h : ∀ s ∈ l, nearS s) : ∀ k : Nat, k ≤ l.length → -(400000 * (k : Int)) ≤ areaS (l.take k) ∧ areaS (l.take k) ≤ 400000 * (k : Int)
 | 0, _ => by simp [areaS]
 | k + 1, hk => by
  have ih := areaS_near h k (by omega)
  have hs := h _ (List.getElem_mem (show k < l.length by omega))
  rw [areaS_snoc (by omega)]
  unfold nearS at hs
  push_cast
  omega
def barAt (s : Strp) (y x side : Int) : List Bar := if s.2.2.1 ≤ x + side ∧ x + side ≤ s.2.2.2 then [(x, y, side)] else []
def barAts (s : Strp) (y x : Int) : Nat → List Bar
 | 0 => []
 | 1 => barAt s y x (-1)
 | _ => barAt s y x (-1) ++ barAt s y x 1
theorem barsX_even {s : Strp} {y x : Int} (h : (x + y) % 2 = 0) : barsX s y x = barAts s y x 2 := by
 unfold barsX barAts barAt
 rw [if_neg (by simpa using h)]
 rfl
theorem barsX_odd {s : Strp} {y x : Int} (h : (x + y) % 2 ≠ 0) : barsX s y x = [] := by
 unfold barsX
 rw [if_pos h]
theorem barAt_len (s : Strp) (y x side : Int) : (barAt s y x side).length ≤ 1 := by
 unfold barAt
 split <;> simp
theorem barAts_len (s : Strp) (y x : Int) : ∀ j, (barAts s y x j).length ≤ 2
 | 0 => by simp [barAts]
 | 1 => Nat.le_trans (barAt_len ..) (by omega)
 | j + 2 => by
  have h1 := barAt_len s y x (-1)
  have h2 := barAt_len s y x 1
  show (barAt s y x (-1) ++ barAt s y x 1).length ≤ 2
  rw [List.length_append]
  omega
theorem barsX_len (s : Strp) (y x : Int) : (barsX s y x).length ≤ 2 := by
 by_cases h : (x + y) % 2 = 0
 ·rw [barsX_even h]
  exact barAts_len ..
 ·rw [barsX_odd h]
  simp
theorem barsN_len (s : Strp) (y : Int) : ∀ n, (barsN s y n).length ≤ 2 * n
 | 0 => by simp [barsN]
 | n + 1 => by
  have h1 := barsN_len s y n
  have h2 := barsX_len s y (s.1 + (n : Int))
  rw [barsN, List.length_append]
  omega
theorem barsS_len {s : Strp} (h : nearS s) (y : Int) : (barsS s y).length ≤ 400002 := by
 have := barsN_len s y (s.2.1 - s.1 + 1).toNat
 unfold nearS at h
 unfold barsS
 omega
theorem netN_len {l : List Strp} (h : ∀ s ∈ l, nearS s) : ∀ n, n ≤ l.length → (netN l n).length ≤ 400002 * n
 | 0, _ => by simp [netN]
 | n + 1, hn => by
  have h1 := netN_len h n (by omega)
  have hs : nearS (l.getD n (0, 0, 0, 0)) := by
   rw [List.getD_eq_getElem?_getD, List.getElem?_eq_getElem (show n < l.length by omega), Option.getD_some]
   exact h _ (List.getElem_mem _)
  have h2 := barsS_len hs (n : Int)
  rw [netN, List.length_append]
  omega
theorem barAt_mem {s : Strp} {y x side : Int} {b : Bar} (h : b ∈ barAt s y x side) : b = (x, y, side) ∧ s.2.2.1 ≤ x + side ∧ x + side ≤ s.2.2.2 := by
 unfold barAt at h
 split at h
 ·rename_i hc
  exact ⟨by simpa using h, hc⟩
 ·cases h
theorem barsX_mem {s : Strp} {y x : Int} {b : Bar} (h : b ∈ barsX s y x) : b.1 = x ∧ b.2.1 = y ∧ (b.2.2 = -1 ∨ b.2.2 = 1) ∧ (x + y) % 2 = 0 ∧ s.2.2.1 ≤ x + b.2.2 ∧ x + b.2.2 ≤ s.2.2.2 := by
 by_cases he : (x + y) % 2 = 0
 ·rw [barsX_even he] at h
  rcases List.mem_append.1 h with h | h
  ·obtain ⟨rfl, h1, h2⟩ := barAt_mem h
   exact ⟨rfl, rfl, .inl rfl, he, h1, h2⟩
  ·obtain ⟨rfl, h1, h2⟩ := barAt_mem h
   exact ⟨rfl, rfl, .inr rfl, he, h1, h2⟩
 ·rw [barsX_odd he] at h
  cases h
theorem barsN_mem {s : Strp} {y : Int} {b : Bar} : ∀ n, b ∈ barsN s y n → ∃ m : Nat, m < n ∧ b ∈ barsX s y (s.1 + (m : Int))
 | 0, h => by cases h
 | n + 1, h => by
  rw [barsN] at h
  rcases List.mem_append.1 h with h | h
  ·obtain ⟨m, hm, h⟩ := barsN_mem n h
   exact ⟨m, by omega, h⟩
  ·exact ⟨n, by omega, h⟩
theorem barsS_mem {s : Strp} {y : Int} {b : Bar} (h : b ∈ barsS s y) : b.2.1 = y ∧ s.1 ≤ b.1 ∧ b.1 ≤ s.2.1 ∧ (b.2.2 = -1 ∨ b.2.2 = 1) ∧ (b.1 + y) % 2 = 0 ∧ s.2.2.1 ≤ b.1 + b.2.2 ∧ b.1 + b.2.2 ≤ s.2.2.2 := by
 obtain ⟨m, hm, h⟩ := barsN_mem _ h
 obtain ⟨h1, h2, h3, h4, h5, h6⟩ := barsX_mem h
 rw [← h1] at h4 h5 h6
 exact ⟨h2, by omega, by omega, h3, h4, h5, h6⟩
theorem netN_mem {l : List Strp} {b : Bar} : ∀ n, b ∈ netN l n → ∃ k : Nat, k < n ∧ b ∈ barsS (l.getD k (0, 0, 0, 0)) (k : Int)
 | 0, h => by cases h
 | n + 1, h => by
  rw [netN] at h
  rcases List.mem_append.1 h with h | h
  ·obtain ⟨m, hm, h⟩ := netN_mem n h
   exact ⟨m, by omega, h⟩
  ·exact ⟨n, by omega, h⟩
def netErr (p : Pan) : Int := if panE p = 0 then whenI (decide (4096 < (netL p).length)) 5 else panE p
end Go.Proofs.YtpcgeihemkhkjaaGreatDoor

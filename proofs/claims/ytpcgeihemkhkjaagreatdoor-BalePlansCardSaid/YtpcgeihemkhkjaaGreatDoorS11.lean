/- Outlines, walked. Conditions: bounds. -/
import Derived.Test.YtpcgeihemkhkjaaGreatDoorS10
import Derived.Test.YtpcgeihemkhkjaaGreatDoorS07
namespace Go.Proofs.YtpcgeihemkhkjaaGreatDoor
open Go.RowKit Go.ChangeMaps
set_option maxHeartbeats 4000000
set_option maxRecDepth 100000
attribute [local go_sem] Oper.semAt_some
instance {B : Nat} {w : World} : Nonempty (BelM B w fun _ => True) := ⟨⟨w, Below.refl _ _, trivial⟩⟩
def Zak (l : List Edg) : Prop := (stpL l).length ≤ 512 ∧ l.length ≤ 100000 ∧ ∀ e ∈ l, 0 ≤ e.2.1 ∧ e.2.1 ≤ 64 ∧ e.1.length ≤ 64
theorem Zal {vL vR : Value} (p : Pan) (right : Bool) (w : World) (hL : SlE w vL p.2.2.1) (hR : SlE w vR p.2.2.2) (hw : -1000 ≤ p.2.1 ∧ p.2.1 ≤ 1000) (hs : Zak (Z33 p right)) :
  Calls Tryz.prog 181 #[.agg #[sV p.1, .int .i64 p.2.1, vL, vR], .bool right] w (RK w (outP p right)) := by
 obtain ⟨nm, wd, L, R⟩ := p
 simp only at hL hR hw
 obtain ⟨AL, cL, rfl, hlL, hmL, hrL⟩ := hL
 obtain ⟨AR, cR, rfl, hlR, hmR, hrR⟩ := hR
 unfold sV
 have hP := (Blk.new w 97 #[.string ⟨nm.toArray⟩, .int .i64 wd, .slice AL L.length cL, .slice AR R.length cR]).alloc (.cells #[.bool right] 4)
 have hQ := Blk.new1 w (.cells #[.string ⟨nm.toArray⟩, .int .i64 wd, .slice AL L.length cL, .slice AR R.length cR] 97) 4 #[.bool right]
 refine (callsIn_wide (n := 6)).1 ?_
 refine callsIn_of_wp_marks Tryz.func181 rfl trivial ?_ rfl
 simp only [Tryz.ntmps181, List.size_toArray, List.length_cons, List.length_nil, Nat.reduceAdd, Nat.reduceSub, Array.replicate_succ, Array.replicate_zero, List.push_toArray, List.append_toArray, List.nil_append, List.cons_append]
 gi_upto_region 1 with fail
 obtain ⟨w1, hw1⟩ : ∃ X, (w.alloc (.cells #[.string ⟨nm.toArray⟩, .int .i64 wd, .slice AL L.length cL, .slice AR R.length cR] 97)).alloc (.cells #[.bool right] 4) = X := ⟨_, rfl⟩
 have hb1 : Below w.heap.size w w1 := by rw [← hw1]; exact Z04 (Z04 Z03 _) _
 have HZ1 : Hid (w1.heap.size = w.heap.size + 2) := by rw [← hw1]; simp [Hid]
 rw [hw1] at hP hQ ⊢
 clear hw1
 have fP := hP.facts
 have fQ := hQ.facts
 refine Z9v ?_
 refine Z81 [0, 1, 2] [(3, false), (4, false)] [5] (fun _ => trivial) (by kernel_rfl) (by kernel_rfl) (by kernel_rfl) (fun _ _ _ _ _ h => h) ?_
 simp only [List.map_cons, List.map_nil, List.getD_cons_zero, List.getD_cons_succ]
 repeat (go_big_quiet_step (fail))
 refine wpQuiet_nil ?_
 refine Z83 rfl (fun K hK => ?_)
 go_simp
 refine hK _ _ (by (repeat first|exact J0|assumption|(apply J1;assumption)|apply J2|apply J3|apply J4)) ?_
 clear hK K
 have hA := Blk.new w1 90 #[.int .i64 0, .int .i64 0]
 refine Z83 rfl (fun K hK => ?_)
 refine Z9w hA.drew _ _ _ rfl rfl rfl rfl (by kernel_rfl) (by kernel_rfl) ?_
 intro w3 hA3 hc3
 have hb13 : Below w1.heap.size w1 w3 := Z9f (Z05 (Z04 Z03 _)) hc3 (Nat.le_refl _)
 refine hK _ _ hb13 ?_
 clear hK K hA hc3
 refine Z82 ?_
 have hP3 := hP.below hb13
 have hQ3 := hQ.below hb13
 have hQ1 := hQ
 clear fP fQ hP hQ
 have fQ := hQ3.facts
 gi_wp2_with fail
 simp only [Z9u]
 gi_upto_if 12 with fail
 gi_cut [5, 6] from 9 (fun s5 s6 wx => ∃ A c, s5 = .pointer (some ⟨w1.heap.size, 0, none⟩) ∧ s6 = .slice A (Z33 (nm, wd, L, R) right).length c ∧ Rd ec 3 w A (Z33 (nm, wd, L, R) right) ∧ Blk wx w1.heap.size 90 #[.int .i64 (Z34 (nm, wd, L, R) right).1, .int .i64 (Z34 (nm, wd, L, R) right).2] ∧ Below w1.heap.size w1 wx)
 case first =>
  cases right
  ·gi_wp2
   gi_meet
   case rel => exact ⟨AL, cL, rfl, rfl, hrL, hA3, hb13⟩
  ·have fP := hP3.facts
   have z1 : w.heap.size < w1.heap.size := by have := HZ1.out; omega
   gi_upto_region 3 with fail
   refine Z9v ?_
   refine Zai (w1.heap.size) (fun _ => True) [0, 1, 2, 3, 4, 5] [(6, false)] [7] (fun _ => trivial) (by kernel_rfl) (by kernel_rfl) (by kernel_rfl) (fun _ _ _ _ _ h => h) trivial ?_
   simp only [List.map_cons, List.map_nil, List.getD_cons_zero, List.getD_cons_succ]; repeat (go_big_quiet_step (fail))
   refine wpQuiet_nil ?_; refine Zaj rfl (fun K hK => ?_)
   refine Z9w hA3.drew _ _ _ rfl rfl rfl rfl (by kernel_rfl) (by kernel_rfl) ?_
   intro w4 hA4 hc4; have hb34 : Below w1.heap.size w3 w4 := ((Chg.of_below (Z05 Z03)).trans hc4).below (by simp) hb13.size
   refine hK _ _ hb34 trivial ?_
   clear hK K; refine Z82 ?_; gi_wp2_with fail
   simp only [Z9u]; gi_wp2
   gi_meet
   case rel => exact ⟨AR, cR, rfl, rfl, hrR, hA4, hb13.trans hb34⟩
 case rest =>
  obtain ⟨A, c, rfl, rfl, hrS, hAc, hbc⟩ := hcut; obtain ⟨S, hS⟩ : ∃ S, Z33 (nm, wd, L, R) right = S := ⟨_, rfl⟩
  rw [hS] at hrS hs ⊢; have HO : Hid (outP (nm, wd, L, R) right = outK right (Z34 (nm, wd, L, R) right) (stpL S)) := by unfold Hid outP; rw [hS]
  have hfr : -2000 ≤ (Z34 (nm, wd, L, R) right).1 ∧ (Z34 (nm, wd, L, R) right).1 ≤ 2000 ∧ 0 ≤ (Z34 (nm, wd, L, R) right).2 ∧ (Z34 (nm, wd, L, R) right).2 ≤ 2000 := by
   unfold Z34; cases right <;> simp <;> omega
  obtain ⟨⟨fx, fy⟩, hF⟩ : ∃ z, Z34 (nm, wd, L, R) right = z := ⟨_, rfl⟩
  rw [hF] at hAc hfr HO; simp only at hAc hfr
  obtain ⟨hs1, hs2, hs3⟩ := hs; have hQc : Blk wc (w.heap.size + 1) 4 #[.bool right] := hQ1.below hbc
  have hbw : Below w.heap.size w wc := hb1.trans (hbc.mono hb1.size)
  have fA := hAc.facts
  have hKn : OwK wc.heap.size (wc.alloc (.cells #[.int .i64 fx, .int .i64 fy] 90)) (.slice (some ⟨wc.heap.size, 0, none⟩) 1 1) [(fx, fy)] :=
   ⟨rfl, .inr ⟨wc.heap.size, 1, _, rfl, Nat.le_refl _, heap_alloc_new wc _, Nat.le_refl _, by simp [maxLen], rfl, rfl⟩⟩
  have hOut := Blk.new1 wc (.cells #[.int .i64 fx, .int .i64 fy] 90) 209 #[.slice (some ⟨wc.heap.size, 0, none⟩) 1 1]
  replace hKn := hKn.alloc (.cells #[.slice (some ⟨wc.heap.size, 0, none⟩) 1 1] 209)
  gi_upto_region 5 with fail
  obtain ⟨w5, hw5⟩ : ∃ X, (wc.alloc (.cells #[.int .i64 fx, .int .i64 fy] 90)).alloc (.cells #[.slice (some ⟨wc.heap.size, 0, none⟩) 1 1] 209) = X := ⟨_, rfl⟩
  have hb5 : Below wc.heap.size wc w5 := by rw [← hw5]; exact Z04 (Z04 Z03 _) _
  have hsz5 : w5.heap.size = wc.heap.size + 2 := by rw [← hw5]; simp
  rw [hw5] at hKn hOut ⊢; clear hw5 fA; have hA5 := hAc.below hb5
  have hQ5 := hQc.below hb5
  have hbw5 := Z08 hb5 hbw
  have hrS5 := hrS.below hbw5
  have hz1 := HZ1.out
  have hzc := hbc.size
  have hzd : w.heap.size + 2 < wc.heap.size := by have := hAc.lt; omega
  have hw0 : ∀ b off, A = some ⟨b, off, none⟩ → 0 < S.length → b < w.heap.size := fun b off e h => by
   obtain ⟨b', off', e', hlt, _⟩ := hrS 0 _ (List.getElem?_eq_getElem h)
   rw [e] at e'; cases e'
   exact hlt
  gi_wp2_with (refine ⟨trivial, ?_⟩; gi_at_call 211; refine (callsIn_wide.2 (Za1 A S.length c _)).mono ?_; rintro e w6 ⟨rfl, rfl⟩)
  have hL6 := Blk.new w5 95 #[.slice A S.length c]
  have hb6 : Below w5.heap.size w5 (w5.alloc (.cells #[.slice A S.length c] 95)) := Z04 Z03 _
  obtain ⟨w6, hw6⟩ : ∃ X, w5.alloc (.cells #[.slice A S.length c] 95) = X := ⟨_, rfl⟩
  have hsz6 : w6.heap.size = wc.heap.size + 3 := by rw [← hw6]; simp; omega
  rw [hw6] at hL6 hb6 ⊢; clear hw6; have hA6 := hA5.below hb6
  have hQ6 := hQ5.below hb6
  have hO6 := hOut.below hb6
  have hK6 := hKn.below hb6
  have hr6 := hrS5.below hb6
  have hbw6 := Z08 hb6 hbw5
  rw [hsz5] at hL6; rw [hz1] at hA6 hzc; clear hA5 hQ5 hOut hKn hrS5 hbw5 hb6 hb5 hQc hQ1 hQ3 hP3 hA3 hAc fQ hbc hb13 hbw hrS
  refine wpIn_rangeFunc_ownH rfl (by omega) (gf := 239) (lb := #[.pointer (some ⟨wc.heap.size + 2, 0, none⟩)]) rfl trivial (enters_of Tryz.func239 (by kernel_rfl) rfl)
   (Za3 5 (by omega) [w.heap.size + 2, wc.heap.size + 1] wc.heap.size (wc.heap.size + 2) A c S (by omega) hs2 hs3 w6 (fun b off e h => by have := hw0 b off e h; simp; omega) hL6 hr6) Z9z (Za0 (by omega)) (Below.refl _ _) (fun _ => rfl)
   (fun pre W => Blk W (w.heap.size + 2) 90 #[.int .i64 (posK right (fx, fy) pre).1, .int .i64 (posK right (fx, fy) pre).2] ∧ (∃ u, Blk W (wc.heap.size + 1) 209 #[u] ∧ OwK wc.heap.size W u (outK right (fx, fy) pre)) ∧ Blk W (w.heap.size + 1) 4 #[.bool right] ∧ Below w.heap.size w W ∧ w6.heap.size ≤ W.heap.size)
   (fun _ _ _ => False)
   (fun _ W W' row hs hg hr => by
    obtain ⟨h1, ⟨u, h2, h3⟩, h4, h5, h6⟩ := hs; exact ⟨h1.grown hg (Z8b h1 hr), ⟨u, h2.grown hg (Z8b h2 hr), h3.kept hg (Z8c h3 hr)⟩, h4.grown hg (Z8b h4 hr), Z09 hg h5 (fun k e => by have := (hr k e).1; omega), Nat.le_trans h6 hg.size⟩)
   (fun _ _ _ _ _ hs _ _ => hs)
   ⟨hA6, ⟨_, hO6, hK6⟩, hQ6, hbw6, Nat.le_refl _⟩
   (fun x a' W => ∃ Bk, Blk W Bk 286 #[.int .u8 x.1.toNat, .bool x.2] ∧ w6.heap.size ≤ Bk ∧ a' = { tmps := #[.agg #[.string ⟨nm.toArray⟩, .int .i64 wd, .slice AL L.length cL, .slice AR R.length cR], .bool right, .pointer (some ⟨w.heap.size, 0, none⟩), .pointer (some ⟨w.heap.size + 1, 0, none⟩), .slice none 0 0, .pointer (some ⟨w.heap.size + 2, 0, none⟩), .slice A S.length c, .pointer (some ⟨wc.heap.size + 1, 0, none⟩), .pointer (some ⟨Bk, 0, none⟩), u9, u10, u11, u12, u13, u14, u15, u16, u17, u18, .agg #[.int .i64 fx, .int .i64 fy], .slice (some ⟨wc.heap.size, 0, none⟩) 1 1, .slice A S.length c, .func (.func 239) #[] #[.pointer (some ⟨wc.heap.size + 2, 0, none⟩)], .agg #[.int .u8 x.1.toNat, .bool x.2], u24, u25, u26, u27, u28, u29, u30, u31, u32, u33, u34, u35, u36], defers := [] })
   (fun x a' s W W' row hs hg hr => by
    obtain ⟨Bk, hX, hk, rfl⟩ := hs; exact ⟨Bk, hX.grown hg (Z8b hX hr), hk, rfl⟩) ?assign ?body ?done ?stop
  case assign =>
   rintro l pre x W K ⟨h1, ⟨u, h2, h3⟩, h4, h5, h6⟩ hK
   unfold encY; gi_wp2
   have hb2 : Below W.heap.size W (W.alloc (.cells #[.int .u8 x.1.toNat, .bool x.2] 286)) := Z04 Z03 _
   exact hK _ _ (Z84 hb2) (Z9y.of_below hb2 (by omega)) ⟨h1.below hb2, ⟨u, h2.below hb2, h3.below hb2⟩, h4.below hb2, Z08 hb2 h5, Nat.le_trans h6 hb2.size⟩ ⟨W.heap.size, Blk.new W _ _, h6, rfl⟩
  case body =>
   rintro l pre x a' W _ _ ⟨h1, ⟨u, h2, h3⟩, h4, h5, h6⟩ ⟨Bk, hX, hk, rfl⟩ hlt
   have hnear := Z2u (right := right) (n := 2000) pre (k := (fx, fy)) ⟨by simp only; omega, by simp only; omega, by simp only; omega, by simp only; omega⟩
   have HS : Hid (posK right (fx, fy) (pre ++ [x]) = aft (posK right (fx, fy) pre) x.1 (x.2 == right)) := by unfold Hid; rw [Z2o]; rfl
   have HW := Lib.hid (Z2q right pre (fx, fy) x)
   obtain ⟨⟨px, py⟩, hp⟩ : ∃ z, posK right (fx, fy) pre = z := ⟨_, rfl⟩
   rw [hp] at h1 hnear HS; simp only at h1 hnear
   clear hp; have hAf := fun W => Za4 px py x.1 (x.2 == right) (by omega) (by omega) W
   obtain ⟨⟨qx, qy⟩, hq⟩ : ∃ z, aft (px, py) x.1 (x.2 == right) = z := ⟨_, rfl⟩
   rw [hq] at hAf HS; simp only at hAf
   clear hq; obtain ⟨P, hP⟩ : ∃ P, outK right (fx, fy) pre = P := ⟨_, rfl⟩
   have hPl : P.length ≤ 1000000 := by rw [← hP, Z2p]; omega
   rw [hP, HS.out] at HW; rw [hP] at h3; clear hP; obtain ⟨Au, cu, rfl⟩ := h3.shape; have f1 := h1.facts
   have fX := hX.facts
   have f4 := h4.facts
   gi_upto_region 8 with (first | (refine ⟨trivial, ?_⟩; gi_at_call 212; refine (CallsIn.inRound _ (callsIn_wide.2 (hAf _))).mono ?_; rintro e w7 ⟨rfl, hb7⟩; have h17 := h1.below hb7; have h27 := h2.below hb7) | (refine Z9x h17 rfl _ _ _ rfl rfl rfl (by rfl) (by kernel_rfl) (by kernel_rfl) ?_; intro w8 h18 hc8))
   have h28 := h27.chg hc8 (by simp; omega)
   have h38 := (h3.below hb7).chg hc8 (by simp; omega)
   have h48 := (h4.below hb7).chg hc8 (by simp)
   have h58 := Z9f (Z08 hb7 h5) hc8 (by omega)
   have hz7 := hb7.size
   have hz8 : w6.heap.size ≤ w8.heap.size := Nat.le_trans h6 (Nat.le_trans hz7 hc8.size)
   have k8 : KeepsFrom w6.heap.size W w8 := (Z84 hb7).trans (Z8h h17 hc8)
   have t8 : Z9y 133 [w.heap.size + 2, wc.heap.size + 1] wc.heap.size W w8 := (Z9y.of_below hb7 (by omega)).trans (Z9y.of_chg hc8 (by simp) h17 (by decide) (by omega))
   have f18 := h18.facts
   have f28 := h28.facts
   have hal : Below w8.heap.size w8 (w8.alloc (.cells #[.int .i64 qx, .int .i64 qy] 90)) := Z04 Z03 _
   gi_wp2_with (gi_at_builtin; refine Z8f h38 rfl _ _ rfl rfl rfl rfl (by omega) (by omega) ?_; intro v9 w9 h39 hg9; obtain ⟨A9, c9, rfl⟩ := h39.shape; have h29 := (h28.below hal).grown hg9 (h38.ne_blk h28 (by decide)); have f9 := h29.facts)
   have hz9 := hg9.size
   have h19 := (h18.below hal).grown hg9 (fun e => by have := (h38.lt _ e.symm).1; omega)
   have h49 := (h48.below hal).grown hg9 (h38.ne_blk h48 (by decide))
   have h59 : Below w.heap.size w w9 := Z09 hg9 (Z08 hal h58) (fun k e => by have := (h38.lt k e).1; omega)
   refine ⟨k8.trans ((Z84 hal).trans ((Z8d (h38.alloc _) hg9).trans (Z8e h29 0 _))),
    t8.trans ((Z9y.of_below hal (by omega)).trans ((Z9y.of_grown (h38.alloc _) (by decide) hg9 (by simp; omega) (fun k e => (h38.lt k e).1)).trans (Z9y.of_set (by simp) h29 (by decide)))), ?_, ⟨_, h29.set_ 0 _, ?_⟩, ?_, ?_, ?_⟩
   ·rw [HS.out]
    exact h19.far (p := ⟨wc.heap.size + 1, 0, none⟩) (by simp; omega) _
   ·rw [HW.out]
    have := h39.set (p := ⟨wc.heap.size + 1, 0, none⟩) (Ne.symm (h39.ne_blk h29 (by decide))) (.slice A9 (P ++ [(qx, qy)]).length c9)
    simpa using this
   ·exact h49.far (p := ⟨wc.heap.size + 1, 0, none⟩) (by simp; omega) _
   ·exact Z07 h59 (by simp; omega) _
   ·simp only [World.setCell]
    have := hal.size
    simp
    omega
  case done =>
   rintro D' ys W hD rfl ⟨h1, ⟨u, hu1, hu2⟩, h4, hbw, hs2⟩ hK
   have fo := hu1.facts
   gi_wp2
   refine ⟨by simp, .inl ⟨_, _, rfl, run_takeDeferred hK, ?_⟩⟩
   exact ⟨_, results_tmp rfl _ _ _, u, rfl, by rw [HO.out]; exact Own.base_mono (ownsRow_putObj hu2 _ hK rfl) (by omega), hbw.trans (belowK_b (w := w) (Nat.le_refl _) W D' _ _ (by omega) hK rfl rfl)⟩
  case stop =>
   rintro D' c pre W _ _ h _
   exact h.elim
def farX (k : Knot) : Bool := decide (k.1 < -4096) || decide (4096 < k.1)
theorem Zam (x y : Int) (w : World) : Calls Tryz.prog 184 #[.agg #[.int .i64 x, .int .i64 y]] w (RV w (.bool (farX (x, y)))) := by
 have hK := Blk.new w 90 #[.int .i64 x, .int .i64 y]
 have fhK := hK.facts
 by_cases h : x < -4096
 ·have HF : Hid (farX (x, y) = true) := by unfold Hid farX; simp [h]
  go_enter Tryz.func184, Tryz.ntmps184
  go_wp2; go_ret; exact ⟨by rw [HF.out]; rfl, by (repeat first|exact J0|assumption|(apply J1;assumption)|apply J2|apply J3|apply J4)⟩
 ·have HF : Hid (farX (x, y) = decide (4096 < x)) := by unfold Hid farX; simp [h]
  have t1 : (x < -4096) = False := eq_false h
  clear h; go_enter Tryz.func184, Tryz.ntmps184
  go_wp2; go_ret; exact ⟨by rw [HF.out]; rfl, by (repeat first|exact J0|assumption|(apply J1;assumption)|apply J2|apply J3|apply J4)⟩
theorem Zan (l : List Knot) (A : Option Addr) (c : Nat) (w : World) (h : Rd kc 2 w A l) (hl : l.length ≤ 1000000) (x y : Int) (hx : l[l.length - 1]? = some (x, y)) : Calls Tryz.prog 182 #[.slice A l.length c] w (RV w (.agg #[.int .i64 x, .int .i64 y])) := by
 obtain ⟨hlt, he⟩ := List.getElem?_eq_some_iff.1 hx
 obtain ⟨b, off, rfl, hb, e0, e1⟩ := h.knot hlt
 rw [he] at e0 e1
 simp only at e0 e1
 obtain ⟨t, ht⟩ : ∃ t, l.length - 1 = t := ⟨_, rfl⟩
 have hlm : (l.length : Int) - 1 = (t : Int) := by omega
 have htl : t < l.length := by omega
 rw [ht] at e0 e1
 clear hx he ht hlt h
 go_enter Tryz.func182, Tryz.ntmps182
 go_wp2
 refine bodyPost_ret (v := .agg #[.int .i64 x, .int .i64 y]) (by simp [results, Tryz.results182, go_sem]) rfl ?_
 exact ⟨rfl, by (repeat first|exact J0|assumption|(apply J1;assumption)|apply J2|apply J3|apply J4)⟩
@[go_sem] theorem fldK1 (x y : Int) (w : World) : (Instr.field 90 (.agg #[.int .i64 x, .int .i64 y]) 1).run Tryz.prog w = .ok (.int .i64 y) w := by kernel_rfl
theorem Zao (p : Pan) (right : Bool) : (outP p right)[(outP p right).length - 1]? = some (posK right (Z34 p right) (stpL (Z33 p right))) := by
 unfold outP
 rw [Z2p]
 exact Z2s right _ _
theorem Zap (p : Pan) (right : Bool) : (posK right (Z34 p right) (stpL (Z33 p right))).2 = Z2w (stpL (Z33 p right)) := by
 rw [Z32]
 unfold Z34
 cases right <;> simp
theorem Zaq (p : Pan) (right : Bool) (hs : Zak (Z33 p right)) : (outP p right).length ≤ 513 := by
 unfold outP
 rw [Z2p]
 have := hs.1
 omega
theorem Zar {vL vR : Value} (p : Pan) (w : World) (hL : SlE w vL p.2.2.1) (hR : SlE w vR p.2.2.2) (hw : -1000 ≤ p.2.1 ∧ p.2.1 ≤ 1000) (hs : Zak p.2.2.1) :
  Calls Tryz.prog 219 #[.agg #[sV p.1, .int .i64 p.2.1, vL, vR]] w (RV w (.int .i64 (Z35 p))) := by
 have HT : Hid ((posK false (Z34 p false) (stpL (Z33 p false))).2 = Z35 p) := Zap p false
 have hl := Zao p false
 have hn := Zaq p false hs
 obtain ⟨⟨tx, ty⟩, ht⟩ : ∃ z, posK false (Z34 p false) (stpL (Z33 p false)) = z := ⟨_, rfl⟩
 rw [ht] at hl HT
 have ho := fun W (hb : Below w.heap.size w W) => Zal p false W (hL.below hb) (hR.below hb) hw hs
 obtain ⟨O, hO⟩ : ∃ O, outP p false = O := ⟨_, rfl⟩
 rw [hO] at hl hn ho
 have HL := Lib.hid hl
 obtain ⟨nm, wd, L, R⟩ := p
 obtain ⟨AL, cL, rfl, _, _, _⟩ := hL
 obtain ⟨AR, cR, rfl, _, _, _⟩ := hR
 unfold sV at ho ⊢
 simp only at ho
 have hP := Blk.new w 97 #[.string ⟨nm.toArray⟩, .int .i64 wd, .slice AL L.length cL, .slice AR R.length cR]
 have fP := hP.facts
 clear hl ht hO hw hs
 go_enter Tryz.func219, Tryz.ntmps219
 go_wp2_with fail
 refine (ho _ (by (repeat first|exact J0|assumption|(apply J1;assumption)|apply J2|apply J3|apply J4))).mono ?_
 rintro e w1 ⟨v1, rfl, hO1, hb1⟩
 obtain ⟨A1, c1, rfl⟩ := hO1.shape
 obtain ⟨_, _, he, _, _, hr1⟩ := hO1.rd Z21
 obtain ⟨rfl, rfl⟩ : A1 = _ ∧ c1 = _ := by simpa using he
 go_wp2_with fail
 refine (Zan O _ _ _ hr1 (by omega) tx ty HL.out).mono ?_
 rintro e w2 ⟨rfl, hb2⟩
 go_wp2
 go_ret
 exact ⟨by rw [← HT.out]; rfl, by (repeat first|exact J0|assumption|(apply J1;assumption)|apply J2|apply J3|apply J4)⟩
end Go.Proofs.YtpcgeihemkhkjaaGreatDoor
namespace Go.Proofs.YtpcgeihemkhkjaaGreatDoor
open Go.RowKit Go.ChangeMaps
set_option maxHeartbeats 4000000
set_option maxRecDepth 100000
structure Zas (p : Pan) : Prop where
 name : Z6k p.1 = true
 wid : 1 ≤ p.2.1 ∧ p.2.1 ≤ 128
 left : Z3b p.2.2.1
 right : Z3b p.2.2.2
 same : Z2w (stpL p.2.2.2) = Z35 p
 high : 1 ≤ Z35 p ∧ Z35 p ≤ 256
 free : Z73 (outP p false) (outP p true) ((Z35 p).toNat + 1) = false
theorem Z3b.sideOk {l : List Edg} (h : Z3b l) : Zak l :=
 ⟨h.len, by have := h.few; omega, fun e he => by
  obtain ⟨_, h2, _, h4, h5⟩ := Z39 (h.ok e he)
  exact ⟨by omega, h5, h2⟩⟩
theorem Zas.side {p : Pan} (h : Zas p) (right : Bool) : Zak (Z33 p right) := by
 cases right
 ·exact h.left.sideOk
 ·exact h.right.sideOk
theorem Zas.wid' {p : Pan} (h : Zas p) : -1000 ≤ p.2.1 ∧ p.2.1 ≤ 1000 := by
 have := h.wid
 omega
theorem Zas.asc {p : Pan} (h : Zas p) (right : Bool) : Asc (outP p right) := Z79 p right h.wid' (h.side right).1
theorem Zat (p : Pan) : 0 ≤ Z35 p ∧ Z35 p ≤ 2 * (stpL p.2.2.1).length := Z30 _
theorem Zau {p : Pan} (h : Z74 p = 0) : Z6k p.1 = true ∧ (1 ≤ p.2.1 ∧ p.2.1 ≤ 128) ∧ Z3b p.2.2.1 ∧ Z3b p.2.2.2 := by
 unfold Z74 at h
 simp only [Z17] at h
 split at h
 ·rename_i h1
  split at h
  ·rename_i h2
   split at h
   ·rename_i h3
    split at h
    ·rename_i h4
     refine ⟨?_, ?_, Z3c h3, Z3c h4⟩
     ·unfold Z15 at h1
      split at h1
      ·omega
      ·rename_i q
       simpa using q
     ·unfold Z16 Z15 at h2
      split at h2
      ·omega
      ·rename_i q
       simp only [decide_eq_true_eq, Bool.or_eq_true, not_or] at q; omega
    ·rename_i h4; exact absurd h h4
   ·rename_i h3; exact absurd h h3
  ·rename_i h2; exact absurd h h2
 ·rename_i h1; exact absurd h h1
theorem Zav {p : Pan} (h : Z75 p = 0) : Z2w (stpL p.2.2.2) = Z35 p ∧ Z35 p ≠ 0 ∧ Z35 p ≤ 256 := by
 unfold Z75 at h
 simp only [Z17] at h
 split at h
 ·rename_i h1
  split at h
  ·rename_i h2
   split at h
   ·rename_i h3
    unfold Z15 at h1 h2 h3; split at h1
    ·omega
    ·split at h2
     ·omega
     ·split at h3
      ·omega
      ·rename_i q1 q2 q3
       simp only [decide_eq_true_eq] at q1 q2 q3; omega
   ·rename_i h3; exact absurd h h3
  ·rename_i h2; exact absurd h h2
 ·rename_i h1; exact absurd h h1
theorem Zaw {p : Pan} (h : panE p = 0) : Zas p := by
 unfold panE at h
 split at h
 ·rename_i h0; exact absurd h h0
 ·rename_i h0
  split at h
  ·rename_i h1; exact absurd h h1
  ·rename_i h1
   obtain ⟨a1, a2, a3, a4⟩ := Zau (by simpa using h0)
   obtain ⟨b1, b2, b3⟩ := Zav (by simpa using h1)
   have := (Zat p).1
   refine ⟨a1, a2, a3, a4, b1, ⟨by omega, b3⟩, ?_⟩
   unfold Z15 at h; split at h
   ·omega
   ·rename_i q
    simpa using q
theorem Zax (p : Pan) (right : Bool) (h : Zas p) : (posK right (Z34 p right) (stpL (Z33 p right))).2 = Z35 p := by
 rw [Zap]
 cases right
 ·rfl
 ·exact h.same
theorem Zay (p : Pan) (right : Bool) (h : Zas p) : ∀ hi : (outP p right).length - 1 < (outP p right).length, (outP p right)[(outP p right).length - 1].2 = Z35 p := by
 intro hi
 have := Zao p right
 rw [List.getElem?_eq_getElem hi] at this
 rw [Option.some.inj this, Zax p right h]
def Zaz (s : Strp) : Prop := (-100000 ≤ s.1 ∧ s.1 ≤ 100000) ∧ (-100000 ≤ s.2.1 ∧ s.2.1 ≤ 100000) ∧ (-100000 ≤ s.2.2.1 ∧ s.2.2.1 ≤ 100000) ∧ (-100000 ≤ s.2.2.2 ∧ s.2.2.2 ≤ 100000)
theorem Zb0 (y : Int) : ∀ (r : List Knot) (k : Knot), (∀ x ∈ k :: r, -100000 ≤ x.1 ∧ x.1 ≤ 100000) → (-100000 ≤ (Z6x y k r).1 ∧ (Z6x y k r).1 ≤ 100000) ∧ (-100000 ≤ (Z6x y k r).2 ∧ (Z6x y k r).2 ≤ 100000)
 | [], k, _ => by simp [Z6x]
 | n :: r, k, h => by
  have hk := h k (by simp)
  have hn := h n (by simp)
  unfold Z6x; split
  ·split
   ·exact ⟨hk, hn⟩
   ·exact ⟨hn, hn⟩
  ·exact Zb0 y r n fun x hx => h x (List.mem_cons_of_mem _ hx)
theorem Zb1 {l : List Knot} (h : Asc l) (y : Int) : (-100000 ≤ (plcI l y).1 ∧ (plcI l y).1 ≤ 100000) ∧ (-100000 ≤ (plcI l y).2 ∧ (plcI l y).2 ≤ 100000) := by
 have hk : ∀ x ∈ l, -100000 ≤ x.1 ∧ x.1 ≤ 100000 := by
  intro k hk; obtain ⟨i, hi, rfl⟩ := List.getElem_of_mem hk
  have := h.near i hi
  omega
 cases l with
 | nil => exact absurd h.ne (by simp)
 | cons k r => exact Zb0 y r k hk
theorem Zb2 {p : Pan} (h : Zas p) : ∀ s ∈ Z6y p, Zaz s := by
 intro s hs
 unfold Z6y at hs
 obtain ⟨y, _, rfl⟩ := List.mem_map.1 hs
 have h1 := Zb1 (h.asc false) (y : Nat)
 have h2 := Zb1 (h.asc true) (y : Nat)
 exact ⟨h1.1, h2.1, h1.2, h2.2⟩
theorem Zb3 (p : Pan) : (Z6y p).length = (Z35 p).toNat := by unfold Z6y; simp
theorem Zb4 {p : Pan} (h : Zas p) : (Z6y p).length ≤ 256 := by
 rw [Zb3]
 have := h.high
 omega
theorem Zb5 {l : List Strp} {k : Nat} (hk : k < l.length) : Z72 (l.take (k + 1)) = Z72 (l.take k) + (l[k].2.1 - l[k].1 + (l[k].2.2.2 - l[k].2.2.1)) := by
 unfold Z72
 rw [List.take_succ_eq_append_getElem hk, List.map_append, List.sum_append]
 simp only [List.map_cons, List.map_nil, List.sum_cons, List.sum_nil, Int.add_zero]
theorem Zb6 {l : List Strp} (h : ∀ s ∈ l, Zaz s) : ∀ k : Nat, k ≤ l.length → -(400000 * (k : Int)) ≤ Z72 (l.take k) ∧ Z72 (l.take k) ≤ 400000 * (k : Int)
 | 0, _ => by simp [Z72]
 | k + 1, hk => by
  have ih := Zb6 h k (by omega)
  have hs := h _ (List.getElem_mem (show k < l.length by omega))
  rw [Zb5 (by omega)]
  unfold Zaz at hs; push_cast
  omega
def Zb7 (s : Strp) (y x side : Int) : List Bar := if s.2.2.1 ≤ x + side ∧ x + side ≤ s.2.2.2 then [(x, y, side)] else []
def Zb8 (s : Strp) (y x : Int) : Nat → List Bar
 | 0 => []
 | 1 => Zb7 s y x (-1)
 | _ => Zb7 s y x (-1) ++ Zb7 s y x 1
theorem Zb9 {s : Strp} {y x : Int} (h : (x + y) % 2 = 0) : Z6z s y x = Zb8 s y x 2 := by
 unfold Z6z Zb8 Zb7
 rw [if_neg (by simpa using h)]
 rfl
theorem Zba {s : Strp} {y x : Int} (h : (x + y) % 2 ≠ 0) : Z6z s y x = [] := by
 unfold Z6z
 rw [if_pos h]
theorem Zbb (s : Strp) (y x side : Int) : (Zb7 s y x side).length ≤ 1 := by
 unfold Zb7
 split <;> simp
theorem Zbc (s : Strp) (y x : Int) : ∀ j, (Zb8 s y x j).length ≤ 2
 | 0 => by simp [Zb8]
 | 1 => Nat.le_trans (Zbb ..) (by omega)
 | j + 2 => by
  have h1 := Zbb s y x (-1)
  have h2 := Zbb s y x 1
  show (Zb7 s y x (-1) ++ Zb7 s y x 1).length ≤ 2
  rw [List.length_append]; omega
theorem Zbd (s : Strp) (y x : Int) : (Z6z s y x).length ≤ 2 := by
 by_cases h : (x + y) % 2 = 0
 ·rw [Zb9 h]
  exact Zbc ..
 ·rw [Zba h]
  simp
theorem Zbe (s : Strp) (y : Int) : ∀ n, (Z70 s y n).length ≤ 2 * n
 | 0 => by simp [Z70]
 | n + 1 => by
  have h1 := Zbe s y n
  have h2 := Zbd s y (s.1 + (n : Int))
  rw [Z70, List.length_append]; omega
theorem Zbf {s : Strp} (h : Zaz s) (y : Int) : (Z71 s y).length ≤ 400002 := by
 have := Zbe s y (s.2.1 - s.1 + 1).toNat
 unfold Zaz at h
 unfold Z71
 omega
theorem Zbg {l : List Strp} (h : ∀ s ∈ l, Zaz s) : ∀ n, n ≤ l.length → (netN l n).length ≤ 400002 * n
 | 0, _ => by simp [netN]
 | n + 1, hn => by
  have h1 := Zbg h n (by omega)
  have hs : Zaz (l.getD n (0, 0, 0, 0)) := by
   rw [List.getD_eq_getElem?_getD, List.getElem?_eq_getElem (show n < l.length by omega), Option.getD_some]
   exact h _ (List.getElem_mem _)
  have h2 := Zbf hs (n : Int)
  rw [netN, List.length_append]; omega
theorem Zbh {s : Strp} {y x side : Int} {b : Bar} (h : b ∈ Zb7 s y x side) : b = (x, y, side) ∧ s.2.2.1 ≤ x + side ∧ x + side ≤ s.2.2.2 := by
 unfold Zb7 at h
 split at h
 ·rename_i hc
  exact ⟨by simpa using h, hc⟩
 ·cases h
theorem Zbi {s : Strp} {y x : Int} {b : Bar} (h : b ∈ Z6z s y x) : b.1 = x ∧ b.2.1 = y ∧ (b.2.2 = -1 ∨ b.2.2 = 1) ∧ (x + y) % 2 = 0 ∧ s.2.2.1 ≤ x + b.2.2 ∧ x + b.2.2 ≤ s.2.2.2 := by
 by_cases he : (x + y) % 2 = 0
 ·rw [Zb9 he] at h
  rcases List.mem_append.1 h with h | h
  ·obtain ⟨rfl, h1, h2⟩ := Zbh h
   exact ⟨rfl, rfl, .inl rfl, he, h1, h2⟩
  ·obtain ⟨rfl, h1, h2⟩ := Zbh h
   exact ⟨rfl, rfl, .inr rfl, he, h1, h2⟩
 ·rw [Zba he] at h
  cases h
theorem Zbj {s : Strp} {y : Int} {b : Bar} : ∀ n, b ∈ Z70 s y n → ∃ m : Nat, m < n ∧ b ∈ Z6z s y (s.1 + (m : Int))
 | 0, h => by cases h
 | n + 1, h => by
  rw [Z70] at h; rcases List.mem_append.1 h with h | h
  ·obtain ⟨m, hm, h⟩ := Zbj n h
   exact ⟨m, by omega, h⟩
  ·exact ⟨n, by omega, h⟩
theorem Zbk {s : Strp} {y : Int} {b : Bar} (h : b ∈ Z71 s y) : b.2.1 = y ∧ s.1 ≤ b.1 ∧ b.1 ≤ s.2.1 ∧ (b.2.2 = -1 ∨ b.2.2 = 1) ∧ (b.1 + y) % 2 = 0 ∧ s.2.2.1 ≤ b.1 + b.2.2 ∧ b.1 + b.2.2 ≤ s.2.2.2 := by
 obtain ⟨m, hm, h⟩ := Zbj _ h
 obtain ⟨h1, h2, h3, h4, h5, h6⟩ := Zbi h
 rw [← h1] at h4 h5 h6
 exact ⟨h2, by omega, by omega, h3, h4, h5, h6⟩
theorem Zbl {l : List Strp} {b : Bar} : ∀ n, b ∈ netN l n → ∃ k : Nat, k < n ∧ b ∈ Z71 (l.getD k (0, 0, 0, 0)) (k : Int)
 | 0, h => by cases h
 | n + 1, h => by
  rw [netN] at h; rcases List.mem_append.1 h with h | h
  ·obtain ⟨m, hm, h⟩ := Zbl n h
   exact ⟨m, by omega, h⟩
  ·exact ⟨n, by omega, h⟩
def Zbm (p : Pan) : Int := if panE p = 0 then Z15 (decide (4096 < (netL p).length)) 5 else panE p
end Go.Proofs.YtpcgeihemkhkjaaGreatDoor

/- Bars shifted, of the program, walked. Conditions: bars within bounds. -/
import Derived.Test.YtkkefahobjlagaaGreatDoorQ07
import Derived.Test.YtkkefahobjlagaaGreatDoorQ08
import Derived.Test.YtkkefahobjlagaaGreatDoorQ26
import Derived.Lib.SliceRun
import Derived.Deep.CutRange
import Derived.Test.YtkkefahobjlagaaGreatDoorQ13
import Derived.Test.YtkkefahobjlagaaGreatDoorQ27
import Derived.Test.YtkkefahobjlagaaGreatDoorQ17
import Derived.Test.YtkkefahobjlagaaGreatDoorQ39
namespace Go.Proofs.YtkkefahobjlagaaGreatDoor
open Go.RowKit Go.ChangeMaps
set_option maxHeartbeats 4000000
set_option maxRecDepth 100000
theorem bad_in (x y s : Int) : firstI [reachI x y, reachI (x + s) (y + 1)] = if inB (x, y, s) then 0 else 3 := by
 rw [reachI_far, reachI_far]
 unfold inB
 simp only
 cases farB x <;> cases farB y <;> cases farB (x + s) <;> cases farB (y + 1) <;> rfl
def shE (d : Knot) (l : List Bar) : Int := if allIn (l.map (shB d)) then 0 else 3
def shL (d : Knot) (l : List Bar) : List Bar := if allIn (l.map (shB d)) then l.map (shB d) else []
theorem allIn_not {l : List Bar} {f : Bar → Bar} {k : Nat} (hk : k < l.length) (h : inB (f l[k]) = false) : allIn (l.map f) = false := by
 unfold allIn
 rw [List.all_eq_false]
 exact ⟨f l[k], List.mem_map_of_mem (List.getElem_mem hk), by rw [h]; simp⟩
theorem nshifted_any {v : Value} (l : List Bar) (dx dy : Int) (w : World) (h : SlB w v l) (hk : ∀ b ∈ l, BarOk b) (hlen : l.length ≤ 10000) (hdx : -500000 ≤ dx ∧ dx ≤ 500000) (hdy : -500000 ≤ dy ∧ dy ≤ 500000) :
    Calls Tryz.prog 79 #[v, .agg #[.int .i64 dx, .int .i64 dy]] w (RBE w (shL (dx, dy) l) (shE (dx, dy) l)) := by
  obtain ⟨A, c, rfl, hlc, hcm, h⟩ := h
  have HK := Lib.hid hk
  have hB := Blk.new w 40 #[.int .i64 dx, .int .i64 dy]
  clear hk
  go_enter Tryz.func79, Tryz.ntmps79
  go_wp2
  go_loopw [6, 13] (fun o i wr => ∃ k : Nat, k ≤ l.length ∧ i = .int .i64 k ∧ Hid (allIn ((l.take k).map (shB (dx, dy))) = true) ∧ OwB w.heap.size wr o ((l.take k).map (shB (dx, dy))) ∧ Blk wr w.heap.size 40 #[.int .i64 dx, .int .i64 dy] ∧ Below w.heap.size w wr) (fun _ i _ => l.length - (intOf i).toNat)
  case atStart => exact ⟨0, Nat.zero_le _, rfl, rfl, Own.nil_, hB, by (repeat first|exact J0|assumption|(apply J1;assumption)|apply J2|apply J3|apply J4)⟩
  case round =>
    clear hB
    obtain ⟨k, hk, rfl, HQ, hO, hBr, hbw⟩ := hrel
    obtain ⟨wo, rfl⟩ : ∃ x, x = wr := ⟨_, rfl⟩
    by_cases hlt : k < l.length
    · have hr := h.below hbw
      obtain ⟨b, off, rfl, hb, e0, e1, e2⟩ := hr.bar hlt
      have hbo := HK.out _ (List.getElem_mem hlt)
      have HD := Lib.hid (map_take (shB (dx, dy)) hlt)
      have HA := Lib.hid (allIn_take (f := shB (dx, dy)) hlt)
      have HN := Lib.hid (@allIn_not l (shB (dx, dy)) k hlt)
      have fB := hBr.facts
      obtain ⟨⟨x, y, s⟩, hx⟩ : ∃ z, l[k] = z := ⟨_, rfl⟩
      rw [hx] at e0 e1 e2 hbo HD HA HN
      simp only at e0 e1 e2
      clear hx
      obtain ⟨q1, q2, q3⟩ := hbo
      simp only at q1 q2 q3
      have hll : ((l.take k).map (shB (dx, dy))).length ≤ 10000 := by simp; omega
      obtain ⟨x1, hx1⟩ : ∃ x1, x + dx = x1 := ⟨_, rfl⟩
      obtain ⟨y1, hy1⟩ : ∃ y1, y + dy = y1 := ⟨_, rfl⟩
      have m1 : IntKind.i64.wrap (x + dx) = x1 := by rw [IntWalk.i64_in _ (by omega)]; omega
      have m2 : IntKind.i64.wrap (y + dy) = y1 := by rw [IntWalk.i64_in _ (by omega)]; omega
      have r1 : -1000000 ≤ x1 ∧ x1 ≤ 1000000 := by omega
      have r2 : -1000000 ≤ y1 ∧ y1 ≤ 1000000 := by omega
      have HS : Hid (shB (dx, dy) (x, y, s) = (x1, y1, s)) := by unfold Hid shB; rw [← hx1, ← hy1]
      clear hx1 hy1
      rw [HS.out] at HD HA HN
      have hN0 := Blk.new wo 77 #[.int .i64 x, .int .i64 y, .int .i64 s]
      have hBa := hBr.alloc (.cells #[.int .i64 x, .int .i64 y, .int .i64 s] 77)
      have hOa := hO.alloc (.cells #[.int .i64 x, .int .i64 y, .int .i64 s] 77)
      go_upto_region 5 with fail
      obtain ⟨w1, hw1⟩ : ∃ X, wo.alloc (.cells #[.int .i64 x, .int .i64 y, .int .i64 s] 77) = X := ⟨_, rfl⟩
      have hb1 : Below wo.heap.size wo w1 := by rw [← hw1]; exact bl_alloc bl_refl _
      rw [hw1] at hN0 hBa hOa ⊢
      have fN := hN0.facts
      have fBa := hBa.facts
      clear hw1 e0 e1 e2 hr fB hOa
      go_region
      go_upto_region 6 with fail
      obtain ⟨w2, hw2⟩ : ∃ X, ((w1.setCell ⟨wo.heap.size, 0, none⟩ (.int .i64 x1)).setCell ⟨wo.heap.size, 1, none⟩ (.int .i64 y1)).drew = X := ⟨_, rfl⟩
      have hN2 : Blk w2 wo.heap.size 77 #[.int .i64 x1, .int .i64 y1, .int .i64 s] := by
        rw [← hw2]
        exact ((hN0.set_ 0 (.int .i64 x1)).set_ 1 (.int .i64 y1)).drew
      have hb2 : Below wo.heap.size wo w2 := by
        rw [← hw2]
        exact bl_drew (bl_set (bl_set hb1 (Nat.le_refl _) _) (Nat.le_refl _) _)
      have hB2 := hBr.below hb2
      have hO2 := hO.below hb2
      have hbw2 := bl_then hb2 hbw
      have fN2 := hN2.facts
      rw [hw2]
      clear hw2 fN fBa hN0 hBa hb1
      go_wp2_with fail
      refine (nends_any x1 y1 s (by omega) (by omega) (by omega) _).mono ?_
      rintro e w3 ⟨rfl, hb3⟩
      have hN3 := (hN2.below hb3).alloc (.cells #[.int .i64 x1, .int .i64 y1, .int .i64 (x1 + s), .int .i64 (y1 + 1)] 207)
      have hB3 := (hB2.below hb3).alloc (.cells #[.int .i64 x1, .int .i64 y1, .int .i64 (x1 + s), .int .i64 (y1 + 1)] 207)
      have hO3 := (hO2.below hb3).alloc (.cells #[.int .i64 x1, .int .i64 y1, .int .i64 (x1 + s), .int .i64 (y1 + 1)] 207)
      have hE3 := Blk.new w3 207 #[.int .i64 x1, .int .i64 y1, .int .i64 (x1 + s), .int .i64 (y1 + 1)]
      have hbw3 : Below w.heap.size w (w3.alloc (.cells #[.int .i64 x1, .int .i64 y1, .int .i64 (x1 + s), .int .i64 (y1 + 1)] 207)) := by (repeat first|exact J0|assumption|(apply J1;assumption)|apply J2|apply J3|apply J4)
      clear fN2 hN2 hB2 hO2 hO hBr
      go_upto_region 7 with fail
      obtain ⟨w4, hw4⟩ : ∃ X, w3.alloc (.cells #[.int .i64 x1, .int .i64 y1, .int .i64 (x1 + s), .int .i64 (y1 + 1)] 207) = X := ⟨_, rfl⟩
      rw [hw4] at hN3 hB3 hO3 hE3 hbw3 ⊢
      have fE3 := hE3.facts
      clear hw4
      have hF : ∀ A c W, Rd ic 1 W A [reachI x1 y1, reachI (x1 + s) (y1 + 1)] → Calls Tryz.prog 76 #[.slice A 2 c] W (RV W (.int .i64 (if inB (x1, y1, s) then 0 else 3))) := fun A c W hr => by
        rw [← bad_in]
        exact nfirst_any [reachI x1 y1, reachI (x1 + s) (y1 + 1)] A c W (by simp [maxLen]) hr
      refine wp_region_ords [0, 1, 3, 4] [(2, false)] [5, 6, 7, 8] (by kernel_rfl) (by kernel_rfl) (fun d _ _ _ _ h => by cases d <;> exact h) ?_
      simp only [List.map_cons, List.map_nil, List.getD_cons_zero, List.getD_cons_succ]
      repeat (go_big_quiet_step (fail))
      refine wpQuiet_nil ?_
      refine wpMid_run rfl (fun K hK => ?_)
      go_simp
      refine (nreach_any x1 y1 _).mono ?_
      rintro e w5 ⟨rfl, hb5⟩
      refine hK _ _ (by (repeat first|exact J0|assumption|(apply J1;assumption)|apply J2|apply J3|apply J4)) ?_
      clear hK K
      have hE3_w5 := hE3.below (show Below _ _ w5 by (repeat first|exact J0|assumption|(apply J1;assumption)|apply J2|apply J3|apply J4))
      have fhE3_w5 := hE3_w5.facts
      refine wpMid_nil ?_
      go_wp2_with fail
      refine (nreach_any (x1 + s) (y1 + 1) _).mono ?_
      rintro e w6 ⟨rfl, hb6⟩
      go_wp2_with fail
      go_must (refine (hF _ _ _ (Rd.ints2 (by simp) (by go_simp) (by go_simp))).mono ?_)
      rintro e w7 ⟨rfl, hb7⟩
      have hb47 : Below w4.heap.size w4 w7 := by (repeat first|exact J0|assumption|(apply J1;assumption)|apply J2|apply J3|apply J4)
      have hN7 := hN3.below hb47
      have hB7 := hB3.below hb47
      have hO7 := hO3.below hb47
      have hbw7 := bl_then hb47 hbw3
      have fN7 := hN7.facts
      clear hF fE3
      obtain ⟨q, hq⟩ : ∃ q, inB (x1, y1, s) = q := ⟨_, rfl⟩
      rw [hq] at HA HN ⊢
      clear hq
      cases q
      · have HL : Hid (shL (dx, dy) l = [] ∧ shE (dx, dy) l = 3) := by
          unfold Hid shL shE
          rw [HN.out rfl]
          exact ⟨rfl, rfl⟩
        simp only [Bool.false_eq_true, if_false]
        go_wp2
        go_ret2
        exact ⟨_, by rw [HL.out.2]; rfl, by rw [HL.out.1]; exact Own.nil_, hbw7⟩
      · simp only [if_true]
        go_wp2_with (at_builtin; refine wpList_appB1 hO7 rfl _ _ rfl rfl rfl (by simp) (by omega) hbw7.size ?_; intro v8 w8 hown8 hgr8)
        have hb8 := own_step hO7 hgr8 (by (repeat first|exact J0|assumption|(apply J1;assumption)|apply J2|apply J3|apply J4))
        have hB8 := (hB7.alloc (.cells #[.int .i64 x1, .int .i64 y1, .int .i64 s] 77)).grown hgr8 (hO7.ne_blk hB7 (by decide))
        clear hgr8
        go_wp2
        go_roundw
        case rel => exact ⟨k + 1, by omega, by go_num, by unfold Hid; rw [HA.out, HQ.out]; rfl, by rw [HD.out]; exact hown8, hB8, hb8⟩
        case measure => simp [intOf]; omega
    · have HE : Hid (l.map (shB (dx, dy)) = (l.take k).map (shB (dx, dy))) := by unfold Hid; rw [List.take_of_length_le (by omega)]
      have HL : Hid (shL (dx, dy) l = (l.take k).map (shB (dx, dy)) ∧ shE (dx, dy) l = 0) := by
        unfold Hid shL shE
        rw [HE.out, if_pos HQ.out, if_pos HQ.out]
        exact ⟨rfl, rfl⟩
      go_wp2
      go_ret2
      exact ⟨_, by rw [HL.out.2]; rfl, by rw [HL.out.1]; exact hO, hbw⟩
structure EndsIn (b : Bar) : Prop where
 x : -100000 ≤ b.1 ∧ b.1 ≤ 100000
 y : -100000 ≤ b.2.1 ∧ b.2.1 ≤ 100000
 x2 : -100000 ≤ b.1 + b.2.2 ∧ b.1 + b.2.2 ≤ 100000
 y2 : -100000 ≤ b.2.1 + 1 ∧ b.2.1 + 1 ≤ 100000
 s : b.2.2 = 1 ∨ b.2.2 = -1
theorem EndsIn.ok {b : Bar} (h : EndsIn b) : BarOk b := ⟨by have := h.x; omega, by have := h.y; omega, h.s⟩
theorem EndsIn.turn {b : Bar} (h : EndsIn b) : EndsIn (turnB b) := by
  obtain ⟨x, y, s⟩ := b
  obtain ⟨h1, h2, h3, h4, h5⟩ := h
  simp only at h1 h2 h3 h4 h5
  rcases h5 with rfl | rfl
  · have e : turnB (x, y, 1) = (-y, x, -1) := by
      unfold turnB btwB
      simp only
      rw [if_neg (by omega)]
      simp only [Prod.mk.injEq, true_and]
      omega
    rw [e]
    exact ⟨by simp only; omega, by simp only; omega, by simp only; omega, by simp only; omega, .inr rfl⟩
  · have e : turnB (x, y, -1) = (-(y + 1), x - 1, 1) := by
      unfold turnB btwB
      simp only
      rw [if_pos (by omega)]
      have e1 : x + -1 = x - 1 := by omega
      have e2 : -y - -(y + 1) = 1 := by omega
      rw [e1, e2]
    rw [e]
    exact ⟨by simp only; omega, by simp only; omega, by simp only; omega, by simp only; omega, .inl rfl⟩
theorem EndsIn.mir {b : Bar} (h : EndsIn b) : EndsIn (mirB b) := by
 obtain ⟨x, y, s⟩ := b
 obtain ⟨h1, h2, h3, h4, h5⟩ := h
 unfold mirB
 simp only at h1 h2 h3 h4 h5 ⊢
 constructor <;> simp only <;> omega
def mirK (k : Knot) : Knot := (-k.1, k.2)
def turnK (k : Knot) : Knot := (-k.2, k.1)
theorem mvB_mir {b : Bar} : mvB mirK b = mirB b := by
 obtain ⟨x, y, s⟩ := b
 unfold mvB mirK mirB btwB lowK uppK
 simp only
 rw [if_neg (by omega)]
 simp only [Prod.mk.injEq, true_and]
 omega
def mirN (l : List Bar) : List Bar := srtB (l.map (mvB mirK))
def turnN : Nat → List Bar → List Bar
 | 0, l => l
 | n + 1, l => srtB ((turnN n l).map (mvB turnK))
theorem turnN_len (l : List Bar) : ∀ n, (turnN n l).length = l.length
 | 0 => rfl
 | n + 1 => by
  unfold turnN
  rw [srtB_length, List.length_map, turnN_len l n]
def shiftE (l : List Bar) (x y : Int) : Int := if degE l x y = 0 then shE (x, y) l else degE l x y
def shiftL (l : List Bar) (x y : Int) : List Bar := if degE l x y = 0 then shL (x, y) l else []
theorem apiShift_any {v : Value} (l : List Bar) (x y : Int) (w : World) (h : SlB w v l) : Calls Tryz.prog 18 #[v, .agg #[.int .i64 x, .int .i64 y]] w (RBE w (shiftL l x y) (shiftE l x y)) := by
 have hB := Blk.new w 40 #[.int .i64 x, .int .i64 y]
 have h0 := h.alloc (.cells #[.int .i64 x, .int .i64 y] 40)
 have fB := hB.facts
 by_cases hE : degE l x y = 0
 ·obtain ⟨hz, hk⟩ := firstI_zero hE
  obtain ⟨z1, z2, z3, z4, _⟩ := knotE_zero hk
  have hok := netE_ok hz
  have HZ := Lib.hid hz
  have HS : Hid (shiftL l x y = shL (x, y) l ∧ shiftE l x y = shE (x, y) l) := by unfold Hid shiftL shiftE; rw [if_pos hE, if_pos hE]; exact ⟨rfl, rfl⟩
  have hF : ∀ A c W, Rd ic 1 W A [netE l, knotE x y] → Calls Tryz.prog 76 #[.slice A 2 c] W (RV W (.int .i64 0)) := fun A c W hr => by
   have := nfirst_any [netE l, knotE x y] A c W (by simp [maxLen]) hr
   rwa [show firstI [netE l, knotE x y] = 0 from hE] at this
  clear hE hz hk
  go_enter Tryz.func18, Tryz.ntmps18
  go_wp2
  refine wp_region_ords [0, 2] [(1, false)] [3, 4, 5, 6] (by kernel_rfl) (by kernel_rfl) (fun d _ _ _ _ h => by cases d <;> exact h) ?_
  simp only [List.map_cons, List.map_nil, List.getD_cons_zero, List.getD_cons_succ]
  repeat (go_big_quiet_step (fail))
  refine wpQuiet_nil ?_
  refine wpMid_run rfl (fun K hK => ?_)
  go_simp
  refine (nnet_sl l _ (h0.below (by (repeat first|exact J0|assumption|(apply J1;assumption)|apply J2|apply J3|apply J4)))).mono ?_
  rintro e w1 ⟨rfl, hb1⟩
  refine hK _ _ (by (repeat first|exact J0|assumption|(apply J1;assumption)|apply J2|apply J3|apply J4)) ?_
  clear hK K
  have hB_w1 := hB.below (show Below _ _ w1 by (repeat first|exact J0|assumption|(apply J1;assumption)|apply J2|apply J3|apply J4))
  have fhB_w1 := hB_w1.facts
  refine wpMid_nil ?_
  have h1 := h0.below (show Below _ _ w1 by (repeat first|exact J0|assumption|(apply J1;assumption)|apply J2|apply J3|apply J4))
  go_wp2_with (first | (go_at_call 78; refine (nknot_any x y _).mono ?_; rintro e w2 ⟨rfl, hb2⟩; have hB2 := hB_w1.below hb2; have fB2 := hB2.facts) | (go_at_call 76; go_must (refine (hF _ _ _ (Rd.ints2 (by simp) (by go_simp) (by go_simp))).mono ?_); rintro e w3 ⟨rfl, hb3⟩; have hB3 := ((hB2.alloc (.cells #[.int .i64 (netE l), .int .i64 (knotE x y)] 32)).below hb3); have fB3 := hB3.facts))
  have h3 := (h1.below hb2).below (show Below _ _ w3 by (repeat first|exact J0|assumption|(apply J1;assumption)|apply J2|apply J3|apply J4))
  refine (nshifted_any l x y _ h3 hok.ok hok.len1 (by omega) (by omega)).mono ?_
  rintro e w4 ⟨v4, rfl, hO4, hb4⟩
  have hbw3 : Below w.heap.size w w3 := by (repeat first|exact J0|assumption|(apply J1;assumption)|apply J2|apply J3|apply J4)
  go_wp2
  go_ret2
  exact ⟨_, by rw [HS.out.2]; rfl, by rw [HS.out.1]; exact hO4.base_mono hbw3.size, by (repeat first|exact J0|assumption|(apply J1;assumption)|apply J2|apply J3|apply J4)⟩
 ·have HS : Hid (shiftL l x y = [] ∧ shiftE l x y = degE l x y) := by unfold Hid shiftL shiftE; rw [if_neg hE, if_neg hE]; exact ⟨rfl, rfl⟩
  have hE' : (degE l x y != 0) = true := by simpa using hE
  have hF : ∀ A c W, Rd ic 1 W A [netE l, knotE x y] → Calls Tryz.prog 76 #[.slice A 2 c] W (RV W (.int .i64 (degE l x y))) := fun A c W hr => nfirst_any [netE l, knotE x y] A c W (by simp [maxLen]) hr
  clear hE
  go_enter Tryz.func18, Tryz.ntmps18
  go_wp2
  refine wp_region_ords [0, 2] [(1, false)] [3, 4, 5, 6] (by kernel_rfl) (by kernel_rfl) (fun d _ _ _ _ h => by cases d <;> exact h) ?_
  simp only [List.map_cons, List.map_nil, List.getD_cons_zero, List.getD_cons_succ]
  repeat (go_big_quiet_step (fail))
  refine wpQuiet_nil ?_
  refine wpMid_run rfl (fun K hK => ?_)
  go_simp
  refine (nnet_sl l _ (h0.below (by (repeat first|exact J0|assumption|(apply J1;assumption)|apply J2|apply J3|apply J4)))).mono ?_
  rintro e w1 ⟨rfl, hb1⟩
  refine hK _ _ (by (repeat first|exact J0|assumption|(apply J1;assumption)|apply J2|apply J3|apply J4)) ?_
  clear hK K
  have hB_w1 := hB.below (show Below _ _ w1 by (repeat first|exact J0|assumption|(apply J1;assumption)|apply J2|apply J3|apply J4))
  have fhB_w1 := hB_w1.facts
  refine wpMid_nil ?_
  go_wp2_with (first | (go_at_call 78; refine (nknot_any x y _).mono ?_; rintro e w2 ⟨rfl, hb2⟩) | (go_at_call 76; go_must (refine (hF _ _ _ (Rd.ints2 (by simp) (by go_simp) (by go_simp))).mono ?_); rintro e w3 ⟨rfl, hb3⟩))
  go_ret2
  exact ⟨_, by rw [HS.out.2]; rfl, by rw [HS.out.1]; exact Own.nil_, by (repeat first|exact J0|assumption|(apply J1;assumption)|apply J2|apply J3|apply J4)⟩
def cmpL : List Bar → List Bar → Int
 | [], [] => 0
 | [], _ :: _ => -1
 | _ :: _, [] => 1
 | a :: l, b :: r => if barCmp a.1 a.2.1 a.2.2 b.1 b.2.1 b.2.2 ≠ 0 then barCmp a.1 a.2.1 a.2.2 b.1 b.2.1 b.2.2 else cmpL l r
def frm (l : List Bar) (k : Nat) : List Bar := if k < 4 then turnN k l else turnN (k - 4) (mirN l)
def hdK : List Bar → Knot
 | [] => (0, 0)
 | b :: _ => (-b.1, -b.2.1)
def nrm (f : List Bar) : List Bar := f.map (shB (hdK f))
def bst (l : List Bar) : Nat → List Bar
 | 0 => []
 | k + 1 => if k = 0 ∨ cmpL (nrm (frm l k)) (bst l k) < 0 then nrm (frm l k) else bst l k
theorem blt_all {x y : Bar} {l : List Bar} (h : bltP x y) (hs : (y :: l).Pairwise bltP) : ∀ z ∈ y :: l, bltP x z := fun z hz => by
 rcases List.mem_cons.1 hz with rfl | hz
 ·exact h
 ·exact bltP_trans h ((List.pairwise_cons.1 hs).1 z hz)
theorem blt_tri {a b : Bar} (h : ¬ bltP a b) (hne : a ≠ b) : bltP b a := by
 rw [bltP_iff] at h ⊢
 obtain ⟨x, y, s⟩ := a
 obtain ⟨x', y', s'⟩ := b
 simp only [ne_eq, Prod.mk.injEq] at *
 omega
def kept (K : Bool → Bool → Bool) (a b : List Bar) (x : Bar) : Prop := (x ∈ a ∨ x ∈ b) ∧ K (decide (x ∈ a)) (decide (x ∈ b)) = true
theorem if_mem {p : Bool} {x y : Bar} : y ∈ (if p then [x] else []) ↔ y = x ∧ p = true := by cases p <;> simp
theorem merge_cons {x : Bar} {p : Bool} {r : List Bar} (hr : r.Pairwise bltP) (hx : ∀ z ∈ r, bltP x z) : ((if p then [x] else []) ++ r).Pairwise bltP := by
 cases p
 ·simpa using hr
 ·simpa using ⟨fun a b c h => hx _ h, hr⟩
theorem mergeF_spec (K : Bool → Bool → Bool) : ∀ (n : Nat) (a b : List Bar), a.Pairwise bltP → b.Pairwise bltP → a.length + b.length ≤ n → (mergeF K n a b).Pairwise bltP ∧ ∀ x, x ∈ mergeF K n a b ↔ kept K a b x
 | 0, a, b, _, _, h => by
  obtain rfl : a = [] := List.eq_nil_of_length_eq_zero (by omega)
  obtain rfl : b = [] := List.eq_nil_of_length_eq_zero (by omega)
  simp [mergeF, kept]
 | n + 1, [], [], _, _, _ => by simp [mergeF, kept]
 | n + 1, x :: a, [], ha, hb, h => by
  obtain ⟨h1, h2⟩ := mergeF_spec K n a [] (List.pairwise_cons.1 ha).2 hb (by simp at h ⊢; omega)
  have hxa : x ∉ a := fun hm => bltP_irrefl x ((List.pairwise_cons.1 ha).1 x hm)
  refine ⟨merge_cons h1 fun z hz => (List.pairwise_cons.1 ha).1 z (by have := ((h2 z).1 hz).1; simpa using this), fun z => ?_⟩
  simp only [mergeF, List.mem_append, if_mem, h2]
  unfold kept
  by_cases hz : z = x
  ·subst hz; simp [hxa]
  ·simp [hz]
 | n + 1, [], y :: b, ha, hb, h => by
  obtain ⟨h1, h2⟩ := mergeF_spec K n [] b ha (List.pairwise_cons.1 hb).2 (by simp at h ⊢; omega)
  have hyb : y ∉ b := fun hm => bltP_irrefl y ((List.pairwise_cons.1 hb).1 y hm)
  refine ⟨merge_cons h1 fun z hz => (List.pairwise_cons.1 hb).1 z (by have := ((h2 z).1 hz).1; simpa using this), fun z => ?_⟩
  simp only [mergeF, List.mem_append, if_mem, h2]
  unfold kept
  by_cases hz : z = y
  ·subst hz; simp [hyb]
  ·simp [hz]
 | n + 1, x :: a, y :: b, ha, hb, h => by
  have hxa : x ∉ a := fun hm => bltP_irrefl x ((List.pairwise_cons.1 ha).1 x hm)
  have hyb : y ∉ b := fun hm => bltP_irrefl y ((List.pairwise_cons.1 hb).1 y hm)
  simp only [List.length_cons] at h
  simp only [mergeF]
  split
  ·rename_i hlt
   obtain ⟨h1, h2⟩ := mergeF_spec K n a (y :: b) (List.pairwise_cons.1 ha).2 hb (by simp; omega)
   have hxb : x ∉ y :: b := fun hm => bltP_irrefl x (blt_all hlt hb x hm)
   refine ⟨merge_cons h1 fun z hz => ?_, fun z => ?_⟩
   ·rcases ((h2 z).1 hz).1 with hz | hz
    ·exact (List.pairwise_cons.1 ha).1 z hz
    ·exact blt_all hlt hb z hz
   ·rw [List.mem_append, if_mem, h2]
    unfold kept
    by_cases hz : z = x
    ·subst hz; simp [hxa, hxb]
    ·simp only [List.mem_cons (a := z) (b := x), hz, false_or, false_and]
  ·rename_i hn
   split
   ·rename_i hxy
    subst hxy
    obtain ⟨h1, h2⟩ := mergeF_spec K n a b (List.pairwise_cons.1 ha).2 (List.pairwise_cons.1 hb).2 (by omega)
    refine ⟨merge_cons h1 fun z hz => ?_, fun z => ?_⟩
    ·rcases ((h2 z).1 hz).1 with hz | hz
     ·exact (List.pairwise_cons.1 ha).1 z hz
     ·exact (List.pairwise_cons.1 hb).1 z hz
    ·rw [List.mem_append, if_mem, h2]
     unfold kept
     by_cases hz : z = x
     ·subst hz; simp [hxa, hyb]
     ·simp only [List.mem_cons (a := z) (b := x), hz, false_or, false_and]
   ·rename_i hne
    have hyx := blt_tri hn hne
    obtain ⟨h1, h2⟩ := mergeF_spec K n (x :: a) b ha (List.pairwise_cons.1 hb).2 (by simp; omega)
    have hya : y ∉ x :: a := fun hm => bltP_irrefl y (blt_all hyx ha y hm)
    refine ⟨merge_cons h1 fun z hz => ?_, fun z => ?_⟩
    ·rcases ((h2 z).1 hz).1 with hz | hz
     ·exact blt_all hyx ha z hz
     ·exact (List.pairwise_cons.1 hb).1 z hz
    ·rw [List.mem_append, if_mem, h2]
     unfold kept
     by_cases hz : z = y
     ·subst hz; simp [hyb, hya]
     ·simp only [List.mem_cons (a := z) (b := y), hz, false_or, false_and]
theorem mergeL_sorted (K : Bool → Bool → Bool) {a b : List Bar} (ha : a.Pairwise bltP) (hb : b.Pairwise bltP) : (mergeL K a b).Pairwise bltP := (mergeF_spec K _ a b ha hb (Nat.le_refl _)).1
theorem mergeL_mem (K : Bool → Bool → Bool) {a b : List Bar} (ha : a.Pairwise bltP) (hb : b.Pairwise bltP) (x : Bar) : x ∈ mergeL K a b ↔ kept K a b x := (mergeF_spec K _ a b ha hb (Nat.le_refl _)).2 x
theorem merge_union {a b : List Bar} (ha : a.Pairwise bltP) (hb : b.Pairwise bltP) : mergeL unionK a b = setB (a ++ b) :=
 sortedB_eq (mergeL_sorted _ ha hb) (setB_sorted _) fun x => by
  rw [mergeL_mem _ ha hb, setB_mem, List.mem_append]
  unfold kept unionK
  simp only [Bool.or_eq_true, decide_eq_true_eq]
  exact ⟨fun h => h.1, fun h => ⟨h, h⟩⟩
theorem mirB_mirB (b : Bar) : mirB (mirB b) = b := by obtain ⟨x, y, s⟩ := b; simp [mirB]
theorem mirB_inj {a b : Bar} (h : mirB a = mirB b) : a = b := by rw [← mirB_mirB a, h, mirB_mirB]
theorem turn_up (x y : Int) : turnB (x, y, 1) = (-y, x, -1) := by
 unfold turnB btwB; simp only; rw [if_neg (by omega)]; simp only [Prod.mk.injEq, true_and] <;> omega
theorem turn_dn (x y : Int) : turnB (x, y, -1) = (-y - 1, x - 1, 1) := by
 unfold turnB btwB; simp only; rw [if_pos (by omega)]; simp only [Prod.mk.injEq] <;> omega
theorem turnB_of {b : Bar} (h : Sided b) : turnB b = if b.2.2 = 1 then (-b.2.1, b.1, -1) else (-b.2.1 - 1, b.1 - 1, 1) := by
 obtain ⟨x, y, s⟩ := b
 unfold Sided at h
 simp only at h
 obtain rfl | rfl := h
 ·rw [turn_up]; rfl
 ·rw [turn_dn]; rfl
theorem turnB_sided {b : Bar} (h : Sided b) : Sided (turnB b) := by
 rw [turnB_of h]; unfold Sided; split <;> simp
theorem turnB_two {b : Bar} (h : Sided b) : turnB (turnB b) = (-b.1 - b.2.2, -b.2.1 - 1, b.2.2) := by
 obtain ⟨x, y, s⟩ := b
 unfold Sided at h
 simp only at h
 obtain rfl | rfl := h
 ·simp only [turn_up, turn_dn]
 ·simp only [turn_up, turn_dn, Prod.mk.injEq, and_true]; omega
theorem turnB_four {b : Bar} (h : Sided b) : turnB (turnB (turnB (turnB b))) = b := by
 have h2 := turnB_sided (turnB_sided h)
 rw [turnB_two h2, turnB_two h]
 obtain ⟨x, y, s⟩ := b
 simp only [Prod.mk.injEq]
 exact ⟨by omega, by omega, trivial⟩
theorem turnB_inj {a b : Bar} (ha : Sided a) (hb : Sided b) (h : turnB a = turnB b) : a = b := by
 rw [← turnB_four ha, h, turnB_four hb]
theorem nodup_map {α β : Type} {f : α → β} {l : List α} (hn : l.Nodup) (hf : ∀ a ∈ l, ∀ b ∈ l, f a = f b → a = b) : (l.map f).Nodup := by
 rw [List.nodup_iff_pairwise_ne, List.pairwise_map]
 exact hn.imp_of_mem fun ha hb hne e => hne (hf _ ha _ hb e)
theorem mirN_eq (l : List Bar) : mirN l = srtB (l.map mirB) := by
 unfold mirN
 congr 1
 exact List.map_congr_left fun b _ => mvB_mir
theorem turnN_eq (n : Nat) (l : List Bar) : turnN (n + 1) l = srtB ((turnN n l).map turnB) := rfl
theorem mirN_mem (l : List Bar) (b : Bar) : b ∈ mirN l ↔ mirB b ∈ l := by
 rw [mirN_eq, srtB_mem, List.mem_map]
 constructor
 ·rintro ⟨c, hc, rfl⟩; rwa [mirB_mirB]
 ·intro h; exact ⟨_, h, mirB_mirB b⟩
theorem mirN_sorted {l : List Bar} (hn : l.Nodup) : (mirN l).Pairwise bltP := by
 rw [mirN_eq]; exact srtB_sorted (nodup_map hn fun a _ b _ h => mirB_inj h)
theorem turnN_sided {l : List Bar} (h : ∀ b ∈ l, Sided b) : ∀ n, ∀ b ∈ turnN n l, Sided b
 | 0 => h
 | n + 1 => fun b hb => by
  rw [turnN_eq, srtB_mem, List.mem_map] at hb
  obtain ⟨c, hc, rfl⟩ := hb
  exact turnB_sided (turnN_sided h n c hc)
theorem turnN_nodup {l : List Bar} (hn : l.Nodup) (h : ∀ b ∈ l, Sided b) : ∀ n, (turnN n l).Nodup
 | 0 => hn
 | n + 1 => by
  rw [turnN_eq]
  exact sortedB_nodup (srtB_sorted (nodup_map (turnN_nodup hn h n) fun a ha b hb => turnB_inj (turnN_sided h n a ha) (turnN_sided h n b hb)))
theorem turnN_sorted {l : List Bar} (hs : l.Pairwise bltP) (h : ∀ b ∈ l, Sided b) : ∀ n, (turnN n l).Pairwise bltP
 | 0 => hs
 | n + 1 => by
  rw [turnN_eq]
  exact srtB_sorted (nodup_map (turnN_nodup (sortedB_nodup hs) h n) fun a ha b hb => turnB_inj (turnN_sided h n a ha) (turnN_sided h n b hb))
theorem turnN_mem (l : List Bar) (x : Bar) (n : Nat) : x ∈ turnN (n + 1) l ↔ ∃ b ∈ turnN n l, turnB b = x := by
 rw [turnN_eq, srtB_mem, List.mem_map]
def Tch (a b : Bar) : Prop := lowK a = lowK b ∨ lowK a = uppK b ∨ uppK a = lowK b ∨ uppK a = uppK b
instance (a b : Bar) : Decidable (Tch a b) := inferInstanceAs (Decidable (_ ∨ _))
theorem Tch.symm {a b : Bar} (h : Tch a b) : Tch b a := by
 unfold Tch at *
 rcases h with h | h | h | h
 ·exact .inl h.symm
 ·exact .inr (.inr (.inl h.symm))
 ·exact .inr (.inl h.symm)
 ·exact .inr (.inr (.inr h.symm))
inductive Conn (l : List Bar) (a : Bar) : Bar → Prop
 | refl : Conn l a a
 | step {b c : Bar} : Conn l a b → c ∈ l → Tch b c → Conn l a c
theorem Conn.mem {l : List Bar} {a b : Bar} (h : Conn l a b) (ha : a ∈ l) : b ∈ l := by
 cases h with
 | refl => exact ha
 | step _ h _ => exact h
theorem Conn.trans {l : List Bar} {a b c : Bar} (h : Conn l a b) (h' : Conn l b c) : Conn l a c := by
 induction h' with
 | refl => exact h
 | step _ hm ht ih => exact ih.step hm ht
theorem Conn.symm {l : List Bar} {a b : Bar} (h : Conn l a b) (ha : a ∈ l) : Conn l b a := by
 induction h with
 | refl => exact .refl
 | step hab hm ht ih => exact (Conn.step .refl (hab.mem ha) ht.symm).trans ih
noncomputable instance (l : List Bar) (a x : Bar) : Decidable (Conn l a x) := Classical.propDecidable _
noncomputable def compL (l : List Bar) (a : Bar) : List Bar := l.filter fun x => decide (Conn l a x)
theorem compL_mem {l : List Bar} {a x : Bar} (ha : a ∈ l) : x ∈ compL l a ↔ Conn l a x := by
 unfold compL
 rw [List.mem_filter, decide_eq_true_eq]
 exact ⟨fun h => h.2, fun h => ⟨h.mem ha, h⟩⟩
noncomputable def prtC (l : List Bar) : Nat → List (List Bar)
 | 0 => []
 | k + 1 => match l[k]? with
  | none => prtC l k
  | some b => if b ∈ (prtC l k).flatten then prtC l k else prtC l k ++ [compL l b]
theorem prtC_succ {l : List Bar} {k : Nat} (hk : k < l.length) : prtC l (k + 1) = if l[k] ∈ (prtC l k).flatten then prtC l k else prtC l k ++ [compL l l[k]] := by
 rw [prtC, List.getElem?_eq_getElem hk]
theorem prtC_flat (l : List Bar) : ∀ (k : Nat), k ≤ l.length → ∀ x, x ∈ (prtC l k).flatten ↔ ∃ j, ∃ hj : j < l.length, j < k ∧ Conn l l[j] x
 | 0, _, x => by simp [prtC]
 | k + 1, hk, x => by
  have ih := prtC_flat l k (by omega)
  rw [prtC_succ (by omega)]
  have hlt : k < l.length := by omega
  split
  ·rename_i hm
   rw [ih]
   constructor
   ·rintro ⟨j, hj, h1, h2⟩; exact ⟨j, hj, by omega, h2⟩
   ·rintro ⟨j, hj, h1, h2⟩
    by_cases hjk : j = k
    ·subst hjk
     obtain ⟨i, hi, hik, hc⟩ := (ih _).1 hm
     exact ⟨i, hi, hik, hc.trans h2⟩
    ·exact ⟨j, hj, by omega, h2⟩
  ·simp only [List.flatten_append, List.mem_append, List.flatten_cons, List.flatten_nil, List.append_nil]
   rw [ih, compL_mem (List.getElem_mem hlt)]
   constructor
   ·rintro (⟨j, hj, h1, h2⟩ | h)
    ·exact ⟨j, hj, by omega, h2⟩
    ·exact ⟨k, hlt, by omega, h⟩
   ·rintro ⟨j, hj, h1, h2⟩
    by_cases hjk : j = k
    ·subst hjk; exact .inr h2
    ·exact .inl ⟨j, hj, by omega, h2⟩
def Leads (b : Bar) (u v : Knot) : Prop := u = lowK b ∧ v = uppK b ∨ u = uppK b ∧ v = lowK b
theorem Leads.symm {b : Bar} {u v : Knot} (h : Leads b u v) : Leads b v u := by
 rcases h with ⟨h1, h2⟩ | ⟨h1, h2⟩
 ·exact .inr ⟨h2, h1⟩
 ·exact .inl ⟨h2, h1⟩
inductive KC (l : List Bar) (u : Knot) : Knot → Prop
 | refl : KC l u u
 | step {v w : Knot} {b : Bar} : KC l u v → b ∈ l → Leads b v w → KC l u w
theorem KC.trans {l : List Bar} {u v w : Knot} (h : KC l u v) (h' : KC l v w) : KC l u w := by
 induction h' with
 | refl => exact h
 | step _ hm ht ih => exact ih.step hm ht
theorem KC.symm {l : List Bar} {u v : Knot} (h : KC l u v) : KC l v u := by
 induction h with
 | refl => exact .refl
 | step _ hm ht ih => exact (KC.step .refl hm ht.symm).trans ih
theorem KC.mono {l l' : List Bar} (hs : ∀ b ∈ l, b ∈ l') {u v : Knot} (h : KC l u v) : KC l' u v := by
 induction h with
 | refl => exact .refl
 | step _ hm ht ih => exact ih.step (hs _ hm) ht
theorem KC.bar {l : List Bar} {b : Bar} (h : b ∈ l) : KC l (lowK b) (uppK b) := KC.step .refl h (.inl ⟨rfl, rfl⟩)
theorem KC.ends {l : List Bar} {u v : Knot} (h : KC l u v) (hne : u ≠ v) : v ∈ holeK l := by
 cases h with
 | refl => exact absurd rfl hne
 | step _ hm ht =>
  rename_i b _
  refine (holeIn_mem _ l []).2 (.inr ⟨b, hm, ?_⟩)
  rcases ht with ⟨_, h⟩ | ⟨_, h⟩
  ·exact .inr h
  ·exact .inl h
def Lab (l : List Bar) (f : Knot → Knot) : Prop := ∀ u v, f u = f v ↔ KC l u v
theorem Lab.congr {l l' : List Bar} {f : Knot → Knot} (h : Lab l f) (hs : ∀ b, b ∈ l ↔ b ∈ l') : Lab l' f := fun u v =>
 (h u v).trans ⟨fun h => h.mono fun b hb => (hs b).1 hb, fun h => h.mono fun b hb => (hs b).2 hb⟩
theorem holeK_ends (l : List Bar) (k : Knot) : k ∈ holeK l ↔ ∃ b ∈ l, k = lowK b ∨ k = uppK b := by
 unfold holeK; rw [holeIn_mem]; simp
theorem netGo_zero : ∀ (l : List Bar) (p : Option Bar), (∀ b ∈ l, barE b.1 b.2.1 b.2.2 = 0) → l.Pairwise bltP → (∀ q, p = some q → ∀ b ∈ l, bltP q b) → netGo p l = 0
 | [], p, _, _, _ => by cases p <;> rfl
 | b :: r, p, h1, h2, h3 => by
  rw [netGo, if_neg (by have := h1 b (by simp); omega)]
  have hr : netGo (some b) r = 0 := netGo_zero r (some b) (fun c hc => h1 c (by simp [hc])) (List.pairwise_cons.1 h2).2 (fun q hq c hc => by
   obtain rfl : b = q := by simpa using hq
   exact (List.pairwise_cons.1 h2).1 c hc)
  rw [hr]
  cases p with
  | none => rfl
  | some q =>
   have : barLt q.1 q.2.1 q.2.2 b.1 b.2.1 b.2.2 = true := h3 q rfl b (by simp)
   simp [this]
theorem netE_zero {l : List Bar} (h1 : ∀ b ∈ l, barE b.1 b.2.1 b.2.2 = 0) (h2 : l.Pairwise bltP) (h3 : l.length ≤ 4096) : netE l = 0 := by
 unfold netE
 rw [if_neg (by omega)]
 exact netGo_zero l none h1 h2 (fun q h => by cases h)
theorem netGo_bars : ∀ (l : List Bar) (p : Option Bar), netGo p l = 0 → ∀ b ∈ l, barE b.1 b.2.1 b.2.2 = 0
 | [], _, _, b, hb => by simp at hb
 | c :: r, p, h, b, hb => by
  rw [netGo] at h
  split at h
  ·rename_i hc; exact absurd h hc
  ·rename_i hc
   split at h
   ·cases h
   ·rcases List.mem_cons.1 hb with rfl | hb
    ·exact Decidable.not_not.1 hc
    ·exact netGo_bars r _ h b hb
theorem netE_bars {l : List Bar} (h : netE l = 0) : ∀ b ∈ l, barE b.1 b.2.1 b.2.2 = 0 := by
 unfold netE at h
 split at h
 ·cases h
 ·exact netGo_bars l none h
theorem netE_sub {l r : List Bar} (h : netE l = 0) (hs : r.Pairwise bltP) (hm : ∀ b ∈ r, b ∈ l) : netE r = 0 :=
 netE_zero (fun b hb => netE_bars h b (hm b hb)) hs (Nat.le_trans (length_le_of_sub (sortedB_nodup hs) hm) (netE_ok h).len)
structure SOk (s : Strp) (y : Int) : Prop where
 left : s.2.2.1 = s.1 ∨ (s.2.2.1 = s.1 - 1 ∨ s.2.2.1 = s.1 + 1) ∧ (s.1 + y) % 2 = 0
 right : s.2.2.2 = s.2.1 ∨ (s.2.2.2 = s.2.1 - 1 ∨ s.2.2.2 = s.2.1 + 1) ∧ (s.2.1 + y) % 2 = 0
 wide : s.1 + 2 ≤ s.2.1 ∧ s.2.2.1 + 2 ≤ s.2.2.2
theorem barsX_cnt (s : Strp) (y x : Int) : ((barsX s y x).length : Int) = if (x + y) % 2 ≠ 0 then 0 else (if s.2.2.1 ≤ x - 1 ∧ x - 1 ≤ s.2.2.2 then 1 else 0) + (if s.2.2.1 ≤ x + 1 ∧ x + 1 ≤ s.2.2.2 then 1 else 0) := by
 unfold barsX
 split
 ·rfl
 ·split <;> split <;> simp
def topZ (s : Strp) (y x : Int) : Int := if (x + y) % 2 = 0 then min (x + 1) (max s.2.1 s.2.2.2) else x
theorem barsN_cnt {s : Strp} {y : Int} (h : SOk s y) : ∀ n : Nat, s.1 + n ≤ s.2.1 → ((barsN s y (n + 1)).length : Int) = topZ s y (s.1 + n) - min s.1 s.2.2.1
 | 0, _ => by
  obtain ⟨hl, hr, hw⟩ := h
  obtain ⟨a, b, c, d⟩ := s
  simp only at hl hr hw ⊢
  have e : barsN (a, b, c, d) y (0 + 1) = barsX (a, b, c, d) y (a + ((0 : Nat) : Int)) := by simp [barsN]
  rw [e, barsX_cnt]
  unfold topZ
  simp only
  have e0 : a + ((0 : Nat) : Int) = a := by omega
  rw [e0]
  by_cases hp : (a + y) % 2 = 0
  ·rw [if_neg (by omega), if_pos hp]
   rw [if_pos (show c ≤ a + 1 ∧ a + 1 ≤ d by omega)]
   split <;> omega
  ·rw [if_pos hp, if_neg hp]
   omega
 | n + 1, hn => by
  have ih := barsN_cnt h n (by omega)
  obtain ⟨hl, hr, hw⟩ := h
  obtain ⟨a, b, c, d⟩ := s
  simp only at hl hr hw ih hn ⊢
  have e : barsN (a, b, c, d) y (n + 1 + 1) = barsN (a, b, c, d) y (n + 1) ++ barsX (a, b, c, d) y (a + ((n + 1 : Nat) : Int)) := rfl
  rw [e, List.length_append]
  push_cast
  rw [ih, barsX_cnt]
  unfold topZ
  simp only
  by_cases hp : (a + (n : Int) + y) % 2 = 0
  ·rw [if_pos hp, if_pos (show (a + ((n : Int) + 1) + y) % 2 ≠ 0 by omega), if_neg (show ¬ (a + ((n : Int) + 1) + y) % 2 = 0 by omega)]
   omega
  ·rw [if_neg hp, if_neg (show ¬ (a + ((n : Int) + 1) + y) % 2 ≠ 0 by omega), if_pos (show (a + ((n : Int) + 1) + y) % 2 = 0 by omega)]
   rw [if_pos (show c ≤ a + ((n : Int) + 1) - 1 ∧ a + ((n : Int) + 1) - 1 ≤ d by omega)]
   split <;> omega
theorem barsS_cnt {s : Strp} {y : Int} (h : SOk s y) : ((barsS s y).length : Int) = max s.2.1 s.2.2.2 - min s.1 s.2.2.1 := by
 have h2 := h
 obtain ⟨hl, hr, hw⟩ := h2
 obtain ⟨m, hm⟩ : ∃ m : Nat, s.2.1 - s.1 = m := ⟨(s.2.1 - s.1).toNat, by omega⟩
 have e : (s.2.1 - s.1 + 1).toNat = m + 1 := by omega
 have := barsN_cnt h m (by omega)
 unfold barsS
 rw [e, this]
 unfold topZ
 split <;> omega
def sidS (right : Bool) (k : Knot) : List Stp → List (Int × Int)
 | [] => []
 | s :: r => (if s.1 = 78 then [(k.1, k.1), (k.1, k.1)] else if s.1 = 66 then [(k.1, (stepK right k s).1)] else []) ++ sidS right (stepK right k s) r
theorem sidS_len (right : Bool) : ∀ (l : List Stp) (k : Knot), ((sidS right k l).length : Int) = riseL l
 | [], _ => rfl
 | s :: r, k => by
  rw [sidS, List.length_append, riseL_cons]
  push_cast
  rw [sidS_len right r]
  unfold riseC
  split
  ·rfl
  ·split <;> rfl
theorem plcI_cons (k n : Knot) (r : List Knot) (y : Int) : plcI (k :: n :: r) y = if k.2 ≤ y ∧ y < n.2 then (if n.2 = k.2 + 1 then (k.1, n.1) else (n.1, n.1)) else plcI (n :: r) y := rfl
theorem outK_cons (right : Bool) (k : Knot) : ∀ l : List Stp, ∃ r, outK right k l = k :: r
 | [] => ⟨[], rfl⟩
 | s :: r => ⟨outK right (stepK right k s) r, rfl⟩
theorem plcI_sid (right : Bool) : ∀ (l : List Stp) (k : Knot) (i : Nat) (hi : i < (sidS right k l).length), plcI (outK right k l) (k.2 + (i : Int)) = (sidS right k l)[i]
 | [], k, i, hi => by simp [sidS] at hi
 | s :: r, k, i, hi => by
  obtain ⟨r', hr'⟩ := outK_cons right (stepK right k s) r
  have ih := plcI_sid right r (stepK right k s)
  have e : outK right k (s :: r) = k :: stepK right k s :: r' := by rw [outK, hr']
  rw [e, plcI_cons, ← hr']
  have hy := step_y right k s
  unfold riseC at hy
  by_cases h1 : s.1 = 78
  ·rw [if_pos h1] at hy
   have hx : (stepK right k s).1 = k.1 := by unfold stepK aft; rw [if_pos h1]
   have es : sidS right k (s :: r) = (k.1, k.1) :: (k.1, k.1) :: sidS right (stepK right k s) r := by rw [sidS, if_pos h1]; rfl
   match i with
   | 0 =>
    rw [if_pos (by omega), if_neg (by omega), hx]
    simp [es]
   | 1 =>
    rw [if_pos (by omega), if_neg (by omega), hx]
    simp [es]
   | j + 2 =>
    have hj : j < (sidS right (stepK right k s) r).length := by rw [es] at hi; simpa using hi
    rw [if_neg (by omega), show k.2 + ((j + 2 : Nat) : Int) = (stepK right k s).2 + (j : Int) by omega, ih j hj]
    simp [es]
  ·rw [if_neg h1] at hy
   by_cases h2 : s.1 = 66
   ·rw [if_pos h2] at hy
    have es : sidS right k (s :: r) = (k.1, (stepK right k s).1) :: sidS right (stepK right k s) r := by rw [sidS, if_neg h1, if_pos h2]; rfl
    match i with
    | 0 =>
     rw [if_pos (by omega), if_pos (by omega)]
     simp [es]
    | j + 1 =>
     have hj : j < (sidS right (stepK right k s) r).length := by rw [es] at hi; simpa using hi
     rw [if_neg (by omega), show k.2 + ((j + 1 : Nat) : Int) = (stepK right k s).2 + (j : Int) by omega, ih j hj]
     simp [es]
   ·rw [if_neg h2] at hy
    have es : sidS right k (s :: r) = sidS right (stepK right k s) r := by rw [sidS, if_neg h1, if_neg h2]; rfl
    have hj : i < (sidS right (stepK right k s) r).length := by rw [es] at hi; exact hi
    rw [if_neg (by omega), show k.2 + (i : Int) = (stepK right k s).2 + (i : Int) by omega, ih i hj]
    simp [es]
theorem sidS_ok (right : Bool) : ∀ (l : List Stp) (k : Knot) (_ : (k.1 + k.2) % 2 = 0) (i : Nat) (hi : i < (sidS right k l).length),
  (sidS right k l)[i].2 = (sidS right k l)[i].1 ∨ ((sidS right k l)[i].2 = (sidS right k l)[i].1 - 1 ∨ (sidS right k l)[i].2 = (sidS right k l)[i].1 + 1) ∧ ((sidS right k l)[i].1 + (k.2 + (i : Int))) % 2 = 0
 | [], k, _, i, hi => by simp [sidS] at hi
 | s :: r, k, hk, i, hi => by
  have hy := step_y right k s
  unfold riseC at hy
  by_cases h1 : s.1 = 78
  ·rw [if_pos h1] at hy
   have hx : (stepK right k s).1 = k.1 := by unfold stepK aft; rw [if_pos h1]
   have ih := sidS_ok right r (stepK right k s) (by omega)
   have es : sidS right k (s :: r) = (k.1, k.1) :: (k.1, k.1) :: sidS right (stepK right k s) r := by rw [sidS, if_pos h1]; rfl
   match i with
   | 0 => left; simp [es]
   | 1 => left; simp [es]
   | j + 2 =>
    have hj : j < (sidS right (stepK right k s) r).length := by rw [es] at hi; simpa using hi
    have := ih j hj
    simp only [es, List.getElem_cons_succ]
    rw [show k.2 + ((j + 2 : Nat) : Int) = (stepK right k s).2 + (j : Int) by omega]
    exact this
  ·rw [if_neg h1] at hy
   by_cases h2 : s.1 = 66
   ·rw [if_pos h2] at hy
    have hx : (stepK right k s).1 = k.1 - 1 ∨ (stepK right k s).1 = k.1 + 1 := by
     unfold stepK aft sideI
     rw [if_neg h1, if_pos h2]
     simp only
     split
     ·exact .inr rfl
     ·exact .inl (by omega)
    have ih := sidS_ok right r (stepK right k s) (by omega)
    have es : sidS right k (s :: r) = (k.1, (stepK right k s).1) :: sidS right (stepK right k s) r := by rw [sidS, if_neg h1, if_pos h2]; rfl
    match i with
    | 0 =>
     right
     simp only [es, List.getElem_cons_zero]
     exact ⟨hx, by simpa using hk⟩
    | j + 1 =>
     have hj : j < (sidS right (stepK right k s) r).length := by rw [es] at hi; simpa using hi
     have := ih j hj
     simp only [es, List.getElem_cons_succ]
     rw [show k.2 + ((j + 1 : Nat) : Int) = (stepK right k s).2 + (j : Int) by omega]
     exact this
   ·rw [if_neg h2] at hy
    have hx : (stepK right k s).1 = k.1 - 2 ∨ (stepK right k s).1 = k.1 + 2 := by
     unfold stepK aft sideI
     rw [if_neg h1, if_neg h2]
     simp only
     split
     ·exact .inr (by omega)
     ·exact .inl (by omega)
    have ih := sidS_ok right r (stepK right k s) (by omega)
    have es : sidS right k (s :: r) = sidS right (stepK right k s) r := by rw [sidS, if_neg h1, if_neg h2]; rfl
    have hj : i < (sidS right (stepK right k s) r).length := by rw [es] at hi; exact hi
    have := ih i hj
    simp only [es]
    rw [show k.2 + (i : Int) = (stepK right k s).2 + (i : Int) by omega]
    exact this
def hits (row : Int) : Int → List Knot → Int → Prop
 | _, [], _ => False
 | y, k :: r, X => (hitR row y k = true ∧ k.1 = X) ∨ hits row k.2 r X
theorem rchGo_acc (row : Int) : ∀ (l : List Knot) (y : Int) (a : Int × Int), (rchGo row y l a).1 ≤ a.1 ∧ a.2 ≤ (rchGo row y l a).2
 | [], _, _ => ⟨Int.le_refl _, Int.le_refl _⟩
 | k :: r, y, a => by
  have ih := rchGo_acc row r k.2 (if hitR row y k then minmax a k.1 else a)
  rw [rchGo]
  by_cases hq : hitR row y k = true
  ·rw [if_pos hq] at ih ⊢
   obtain ⟨t1, t2⟩ := ih
   have t3 : (rchGo row k.2 r (minmax a k.1)).1 ≤ min a.1 k.1 := t1
   have t4 : max a.2 k.1 ≤ (rchGo row k.2 r (minmax a k.1)).2 := t2
   omega
  ·rw [if_neg hq] at ih ⊢
   exact ih
theorem rchGo_hit (row : Int) : ∀ (l : List Knot) (y : Int) (a : Int × Int) (X : Int), hits row y l X → (rchGo row y l a).1 ≤ X ∧ X ≤ (rchGo row y l a).2
 | [], _, _, _, h => h.elim
 | k :: r, y, a, X, h => by
  rw [rchGo]
  rcases h with ⟨h1, h2⟩ | h
  ·have := rchGo_acc row r k.2 (if hitR row y k then minmax a k.1 else a)
   rw [if_pos h1] at this ⊢
   obtain ⟨t1, t2⟩ := this
   have t3 : (rchGo row k.2 r (minmax a k.1)).1 ≤ min a.1 k.1 := t1
   have t4 : max a.2 k.1 ≤ (rchGo row k.2 r (minmax a k.1)).2 := t2
   omega
  ·exact rchGo_hit row r k.2 _ X h
theorem rchI_hit {row X : Int} {k : Knot} {r : List Knot} (h : hits row k.2 (k :: r) X) : (rchI (k :: r) row).1 ≤ X ∧ X ≤ (rchI (k :: r) row).2 := rchGo_hit row (k :: r) k.2 noneR X h
theorem hits_back {row y X : Int} {n : Knot} {r : List Knot} (h : hits row n.2 (n :: r) X) : hits row y (n :: r) X := by
 rcases h with ⟨h1, h2⟩ | h
 ·refine .inl ⟨?_, h2⟩
  unfold hitR at h1 ⊢
  simp only [decide_eq_true_eq] at h1 ⊢
  omega
 ·exact .inr h
theorem hitR_own {row y : Int} {k : Knot} (h : k.2 = row) : hitR row y k = true := by unfold hitR; exact decide_eq_true (.inl h)
theorem hitR_past {row y : Int} {k : Knot} (h : y < row) (h2 : row < k.2) : hitR row y k = true := by unfold hitR; exact decide_eq_true (.inr ⟨h, h2⟩)
theorem sid_hits (right : Bool) : ∀ (l : List Stp) (k : Knot) (i : Nat) (hi : i < (sidS right k l).length),
  hits (k.2 + (i : Int)) k.2 (outK right k l) (sidS right k l)[i].1 ∧ hits (k.2 + (i : Int) + 1) k.2 (outK right k l) (sidS right k l)[i].2
 | [], k, i, hi => by simp [sidS] at hi
 | s :: r, k, i, hi => by
  obtain ⟨r', hr'⟩ := outK_cons right (stepK right k s) r
  have ih := sid_hits right r (stepK right k s)
  rw [outK, hr']
  rw [hr'] at ih
  have hy := step_y right k s
  unfold riseC at hy
  by_cases h1 : s.1 = 78
  ·rw [if_pos h1] at hy
   have hx : (stepK right k s).1 = k.1 := by unfold stepK aft; rw [if_pos h1]
   have es : sidS right k (s :: r) = (k.1, k.1) :: (k.1, k.1) :: sidS right (stepK right k s) r := by rw [sidS, if_pos h1]; rfl
   match i with
   | 0 =>
    simp only [es, List.getElem_cons_zero]
    exact ⟨.inl ⟨hitR_own (by omega), rfl⟩, .inr (.inl ⟨hitR_past (by omega) (by omega), hx⟩)⟩
   | 1 =>
    simp only [es, List.getElem_cons_succ, List.getElem_cons_zero]
    exact ⟨.inr (.inl ⟨hitR_past (by omega) (by omega), hx⟩), .inr (.inl ⟨hitR_own (by omega), hx⟩)⟩
   | j + 2 =>
    have hj : j < (sidS right (stepK right k s) r).length := by rw [es] at hi; simpa using hi
    obtain ⟨i1, i2⟩ := ih j hj
    simp only [es, List.getElem_cons_succ]
    rw [show k.2 + ((j + 2 : Nat) : Int) = (stepK right k s).2 + (j : Int) by omega]
    exact ⟨.inr (hits_back i1), .inr (hits_back i2)⟩
  ·rw [if_neg h1] at hy
   by_cases h2 : s.1 = 66
   ·rw [if_pos h2] at hy
    have es : sidS right k (s :: r) = (k.1, (stepK right k s).1) :: sidS right (stepK right k s) r := by rw [sidS, if_neg h1, if_pos h2]; rfl
    match i with
    | 0 =>
     simp only [es, List.getElem_cons_zero]
     exact ⟨.inl ⟨hitR_own (by omega), rfl⟩, .inr (.inl ⟨hitR_own (by omega), rfl⟩)⟩
    | j + 1 =>
     have hj : j < (sidS right (stepK right k s) r).length := by rw [es] at hi; simpa using hi
     obtain ⟨i1, i2⟩ := ih j hj
     simp only [es, List.getElem_cons_succ]
     rw [show k.2 + ((j + 1 : Nat) : Int) = (stepK right k s).2 + (j : Int) by omega]
     exact ⟨.inr (hits_back i1), .inr (hits_back i2)⟩
   ·rw [if_neg h2] at hy
    have es : sidS right k (s :: r) = sidS right (stepK right k s) r := by rw [sidS, if_neg h1, if_neg h2]; rfl
    have hj : i < (sidS right (stepK right k s) r).length := by rw [es] at hi; exact hi
    obtain ⟨i1, i2⟩ := ih i hj
    simp only [es]
    rw [show k.2 + (i : Int) = (stepK right k s).2 + (i : Int) by omega]
    exact ⟨.inr (hits_back i1), .inr (hits_back i2)⟩
def sidP (p : Pan) (right : Bool) : List (Int × Int) := sidS right (fromP p right) (stpL (sideP p right))
theorem fromP_y (p : Pan) (right : Bool) : (fromP p right).2 = 0 := by unfold fromP; split <;> rfl
theorem sidP_len {p : Pan} (h : PanOk p) (right : Bool) : ((sidP p right).length : Int) = heightP p := by
 unfold sidP
 rw [sidS_len]
 cases right
 ·rfl
 ·exact h.same
theorem plcI_sidP (p : Pan) (right : Bool) (i : Nat) (hi : i < (sidP p right).length) : plcI (outP p right) (i : Int) = (sidP p right)[i] := by
 have := plcI_sid right (stpL (sideP p right)) (fromP p right) i hi
 rw [fromP_y, Int.zero_add] at this
 exact this
theorem free_at {p : Pan} (h : PanOk p) (y : Nat) (hy : (y : Int) ≤ heightP p) : (rchI (outP p false) (y : Nat)).2 + 2 ≤ (rchI (outP p true) (y : Nat)).1 := by
 have hf := h.free
 unfold crossB at hf
 rw [List.any_eq_false] at hf
 have := hf y (List.mem_range.2 (by omega))
 simp only [decide_eq_true_eq] at this
 omega
theorem hit_sidP (p : Pan) (right : Bool) (i : Nat) (hi : i < (sidP p right).length) :
  ((rchI (outP p right) (i : Int)).1 ≤ (sidP p right)[i].1 ∧ (sidP p right)[i].1 ≤ (rchI (outP p right) (i : Int)).2) ∧ ((rchI (outP p right) ((i + 1 : Nat) : Int)).1 ≤ (sidP p right)[i].2 ∧ (sidP p right)[i].2 ≤ (rchI (outP p right) ((i + 1 : Nat) : Int)).2) := by
 obtain ⟨h1, h2⟩ := sid_hits right (stpL (sideP p right)) (fromP p right) i hi
 obtain ⟨r, hr⟩ := outK_cons right (fromP p right) (stpL (sideP p right))
 unfold outP
 rw [hr] at h1 h2 ⊢
 have g1 := rchI_hit h1
 have g2 := rchI_hit h2
 rw [fromP_y, Int.zero_add] at g1 g2
 exact ⟨g1, by push_cast; exact g2⟩
theorem strips_get {p : Pan} (i : Nat) (hi : i < (strips p).length) (h1 : i < (sidP p false).length) (h2 : i < (sidP p true).length) :
  (strips p)[i] = ((sidP p false)[i].1, (sidP p true)[i].1, (sidP p false)[i].2, (sidP p true)[i].2) := by
 have e : (strips p)[i] = strI (outP p false) (outP p true) ((i : Nat) : Int) := by simp [strips]
 rw [e]
 unfold strI
 rw [plcI_sidP p false i h1, plcI_sidP p true i h2]
theorem sid_lens {p : Pan} (h : PanOk p) : (sidP p false).length = (strips p).length ∧ (sidP p true).length = (strips p).length := by
 have h1 := sidP_len h false
 have h2 := sidP_len h true
 have h3 := strips_len p
 have h4 := h.high
 omega
theorem strips_ok {p : Pan} (h : PanOk p) (i : Nat) (hi : i < (strips p).length) : SOk (strips p)[i] (i : Int) := by
 obtain ⟨e1, e2⟩ := sid_lens h
 have h1 : i < (sidP p false).length := by omega
 have h2 : i < (sidP p true).length := by omega
 rw [strips_get i hi h1 h2]
 have hh := strips_len p
 have h4 := h.high
 have o1 := sidS_ok false (stpL (sideP p false)) (fromP p false) (by unfold fromP; simp) i h1
 have o2 := sidS_ok true (stpL (sideP p true)) (fromP p true) (by unfold fromP; simp) i h2
 rw [fromP_y, Int.zero_add] at o1 o2
 have w1 := free_at h i (by omega)
 have w2 := free_at h (i + 1) (by omega)
 obtain ⟨⟨_, a1⟩, _, a2⟩ := hit_sidP p false i h1
 obtain ⟨⟨b1, _⟩, b2, _⟩ := hit_sidP p true i h2
 refine ⟨o1, o2, ?_⟩
 simp only
 omega
theorem hits_mem {row X : Int} : ∀ {l : List Knot} {y : Int}, hits row y l X → ∃ k ∈ l, k.1 = X
 | [], _, h => h.elim
 | k :: r, _, h => by
  rcases h with ⟨_, h2⟩ | h
  ·exact ⟨k, List.mem_cons_self .., h2⟩
  ·obtain ⟨k', h1, h2⟩ := hits_mem h
   exact ⟨k', List.mem_cons_of_mem _ h1, h2⟩
theorem netN_in {l : List Strp} {b : Bar} {k : Nat} (hb : b ∈ barsS (l.getD k (0, 0, 0, 0)) (k : Int)) : ∀ n, k < n → b ∈ netN l n
 | 0, h => by omega
 | n + 1, h => by
  rw [netN, List.mem_append]
  by_cases he : k = n
  ·subst he; exact .inr hb
  ·exact .inl (netN_in hb n (by omega))
theorem barLt_row {a b : Bar} (h : a.2.1 < b.2.1) : bltP a b := by
 unfold bltP barLt
 exact decide_eq_true (.inl h)
theorem barLt_col {a b : Bar} (h : a.2.1 = b.2.1) (h2 : a.1 < b.1) : bltP a b := by
 unfold bltP barLt
 exact decide_eq_true (.inr ⟨h, .inl h2⟩)
theorem barsX_asc (s : Strp) (y x : Int) : (barsX s y x).Pairwise bltP := by
 unfold barsX
 split
 ·exact List.Pairwise.nil
 ·split <;> split <;> simp [bltP, barLt]
theorem barsN_asc (s : Strp) (y : Int) : ∀ n, (barsN s y n).Pairwise bltP
 | 0 => List.Pairwise.nil
 | n + 1 => by
  unfold barsN
  rw [List.pairwise_append]
  refine ⟨barsN_asc s y n, barsX_asc s y _, fun a ha b hb => ?_⟩
  obtain ⟨m, hm, ha⟩ := barsN_mem n ha
  obtain ⟨a1, a2, _⟩ := barsX_mem ha
  obtain ⟨b1, b2, _⟩ := barsX_mem hb
  exact barLt_col (by rw [a2, b2]) (by omega)
theorem netN_asc (l : List Strp) : ∀ n, (netN l n).Pairwise bltP
 | 0 => List.Pairwise.nil
 | n + 1 => by
  unfold netN
  rw [List.pairwise_append]
  refine ⟨netN_asc l n, barsN_asc _ _ _, fun a ha b hb => ?_⟩
  obtain ⟨k, hk, ha⟩ := netN_mem n ha
  obtain ⟨a1, _⟩ := barsS_mem ha
  obtain ⟨b1, _⟩ := barsS_mem (s := l.getD n (0, 0, 0, 0)) (y := (n : Int)) hb
  exact barLt_row (by omega)
theorem knotE_nil {x y : Int} (hx : -100000 ≤ x ∧ x ≤ 100000) (hy : -100000 ≤ y ∧ y ≤ 100000) (h : (x + y) % 2 = 0) : knotE x y = 0 := by
 unfold knotE farB
 rw [decide_eq_false (by omega), decide_eq_false (by omega), decide_eq_false (by omega), decide_eq_false (by omega), if_pos h]
 rfl
theorem netL_bar {p : Pan} (h : PanOk p) {b : Bar} (hb : b ∈ netL p) : barE b.1 b.2.1 b.2.2 = 0 := by
 obtain ⟨k, hk, hm⟩ := netN_mem _ hb
 obtain ⟨h1, h2, h3, h4, h5, h6, h7⟩ := barsS_mem hm
 have hs : nearS ((strips p).getD k (0, 0, 0, 0)) := by
  rw [List.getD_eq_getElem?_getD, List.getElem?_eq_getElem hk, Option.getD_some]
  exact strips_near h _ (List.getElem_mem _)
 have hl := strips_le h
 obtain ⟨x, y, s⟩ := b
 simp only at h1 h2 h3 h4 h5 h6 h7 ⊢
 subst h1
 unfold nearS at hs
 unfold barE
 rw [knotE_nil (by omega) (by omega) h5, if_neg (by simp), if_neg (by omega)]
 exact knotE_nil (by omega) (by omega) (by omega)
theorem netL_netE {p : Pan} (h : PanOk p) (hl : (netL p).length ≤ 4096) : netE (netL p) = 0 := netE_zero (fun _ hb => netL_bar h hb) (netN_asc _ _) hl
end Go.Proofs.YtkkefahobjlagaaGreatDoor

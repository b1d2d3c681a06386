/- The bars around a knot, of the program, walked. Conditions: none. -/
import Derived.Test.YtkmjcoofkgpanaaGreatDoorB09
import Derived.Test.YtkmjcoofkgpanaaGreatDoorB06
import Derived.Test.YtkmjcoofkgpanaaGreatDoorB10
import Derived.Lib.SliceRun
namespace Go.Proofs.YtkmjcoofkgpanaaGreatDoor
open Go.RowKit Go.ChangeMaps
set_option maxHeartbeats 4000000
set_option maxRecDepth 100000

@[go_sem] theorem idx4_0 (a b c d e f g h i j k l : Int) (w : World) : (Instr.index 164 (.agg #[.int .i64 a, .int .i64 b, .int .i64 c, .int .i64 d, .int .i64 e, .int .i64 f, .int .i64 g, .int .i64 h, .int .i64 i, .int .i64 j, .int .i64 k, .int .i64 l]) (.int .i64 0)).run Tryz.prog w = .ok (.agg #[.int .i64 a, .int .i64 b, .int .i64 c]) w := by kernel_rfl
@[go_sem] theorem idx4_1 (a b c d e f g h i j k l : Int) (w : World) : (Instr.index 164 (.agg #[.int .i64 a, .int .i64 b, .int .i64 c, .int .i64 d, .int .i64 e, .int .i64 f, .int .i64 g, .int .i64 h, .int .i64 i, .int .i64 j, .int .i64 k, .int .i64 l]) (.int .i64 1)).run Tryz.prog w = .ok (.agg #[.int .i64 d, .int .i64 e, .int .i64 f]) w := by kernel_rfl
@[go_sem] theorem idx4_2 (a b c d e f g h i j k l : Int) (w : World) : (Instr.index 164 (.agg #[.int .i64 a, .int .i64 b, .int .i64 c, .int .i64 d, .int .i64 e, .int .i64 f, .int .i64 g, .int .i64 h, .int .i64 i, .int .i64 j, .int .i64 k, .int .i64 l]) (.int .i64 2)).run Tryz.prog w = .ok (.agg #[.int .i64 g, .int .i64 h, .int .i64 i]) w := by kernel_rfl
@[go_sem] theorem idx4_3 (a b c d e f g h i j k l : Int) (w : World) : (Instr.index 164 (.agg #[.int .i64 a, .int .i64 b, .int .i64 c, .int .i64 d, .int .i64 e, .int .i64 f, .int .i64 g, .int .i64 h, .int .i64 i, .int .i64 j, .int .i64 k, .int .i64 l]) (.int .i64 3)).run Tryz.prog w = .ok (.agg #[.int .i64 j, .int .i64 k, .int .i64 l]) w := by kernel_rfl
theorem naround_any (x y : Int) (hx : -1000000 ≤ x ∧ x ≤ 1000000) (hy : -1000000 ≤ y ∧ y ≤ 1000000) (w : World) :
    Calls Tryz.prog 122 #[.agg #[.int .i64 x, .int .i64 y]] w (RV w (.agg #[.int .i64 (x - 1), .int .i64 (y - 1), .int .i64 1, .int .i64 (x + 1), .int .i64 (y - 1), .int .i64 (-1), .int .i64 x, .int .i64 y, .int .i64 (-1), .int .i64 x, .int .i64 y, .int .i64 1])) := by
  go_enter Tryz.func122, Tryz.ntmps122
  go_wp2
  refine bodyPost_ret (v := .agg #[.int .i64 (x - 1), .int .i64 (y - 1), .int .i64 1, .int .i64 (x + 1), .int .i64 (y - 1), .int .i64 (-1), .int .i64 x, .int .i64 y, .int .i64 (-1), .int .i64 x, .int .i64 y, .int .i64 1]) (by simp [results, Tryz.results122, go_sem]) rfl ?_
  exact ⟨rfl, by (repeat (first | exact bl_refl | assumption | (apply bl_then; assumption) | refine bl_alloc ?_ _ | refine bl_drew ?_ | refine bl_drewN ?_ _))⟩
/-- the four bars of a knot, in their order -/
def arB (k : Knot) : Nat → Bar
  | 0 => (k.1 - 1, k.2 - 1, 1)
  | 1 => (k.1 + 1, k.2 - 1, -1)
  | 2 => (k.1, k.2, -1)
  | _ => (k.1, k.2, 1)
def okB (b : Bar) : Bool := decide (barE b.1 b.2.1 b.2.2 = 0)
def arL (k : Knot) : Nat → List Bar
  | 0 => []
  | n + 1 => arL k n ++ if okB (arB k n) then [arB k n] else []
/-- the valid bars of a knot -/
def aroundL (k : Knot) : List Bar := if knotE k.1 k.2 = 0 then arL k 4 else []
theorem arL_len (k : Knot) : ∀ n, (arL k n).length ≤ n
  | 0 => Nat.le_refl _
  | n + 1 => by
    have := arL_len k n
    unfold arL
    rw [List.length_append]
    split <;> simp <;> omega
theorem apiAround_any (x y : Int) (w : World) : Calls Tryz.prog 68 #[.agg #[.int .i64 x, .int .i64 y]] w (RBE w (aroundL (x, y)) (knotE x y)) := by
  have hB := Blk.new w 23 #[.int .i64 x, .int .i64 y]
  have fB := hB.facts
  by_cases hE : knotE x y = 0
  · obtain ⟨z1, z2, z3, z4, _⟩ := knotE_zero hE
    have hE' : (knotE x y != 0) = false := by simp [hE]
    have HS : Hid (aroundL (x, y) = arL (x, y) 4 ∧ knotE x y = 0) := by unfold Hid aroundL; rw [if_pos hE]; exact ⟨rfl, hE⟩
    clear hE
    go_enter Tryz.func68, Tryz.ntmps68
    go_wp2_with fail
    refine (nknot_any x y _).mono ?_
    rintro e w1 ⟨rfl, hb1⟩
    have hB1 := hB.below hb1
    replace fB := hB1.facts
    go_wp2_with fail
    refine (naround_any x y (by omega) (by omega) _).mono ?_
    rintro e w2 ⟨rfl, hb2⟩
    have hbw2 : Below w.heap.size w w2 := by (repeat (first | exact bl_refl | assumption | (apply bl_then; assumption) | refine bl_alloc ?_ _ | refine bl_drew ?_ | refine bl_drewN ?_ _))
    clear fB hB1 hB
    go_wp2
    go_loopw [5, 15] (fun o i wr => ∃ n : Nat, n ≤ 4 ∧ i = .int .i64 n ∧ OwB w.heap.size wr o (arL (x, y) n) ∧ Below w.heap.size w wr) (fun _ i _ => 4 - (intOf i).toNat)
    case atStart => exact ⟨0, by omega, rfl, Own.nil_, hbw2⟩
    case round =>
      clear hbw2 hb1 hb2
      obtain ⟨n, hn, rfl, hO, hbw⟩ := hrel
      obtain ⟨wo, rfl⟩ : ∃ x, x = wr := ⟨_, rfl⟩
      by_cases hn4 : n < 4
      · have hll := arL_len (x, y) n
        have HD : Hid (arL (x, y) (n + 1) = arL (x, y) n ++ if okB (arB (x, y) n) then [arB (x, y) n] else []) := rfl
        obtain ⟨⟨bx, bY, bs⟩, hb⟩ : ∃ z, arB (x, y) n = z := ⟨_, rfl⟩
        rw [hb] at HD
        obtain ⟨ev, hev⟩ : ∃ q, barE bx bY bs = q := ⟨_, rfl⟩
        have hc := fun W => nbar_any bx bY bs W
        rw [hev] at hc
        have HO : Hid (okB (bx, bY, bs) = decide (ev = 0)) := by unfold Hid okB; simp only; rw [hev]
        have HB := Lib.hid hb
        clear hb hev
        have hOa := hO.alloc (.cells #[.int .i64 bx, .int .i64 bY, .int .i64 bs] 60)
        have hN := Blk.new wo 60 #[.int .i64 bx, .int .i64 bY, .int .i64 bs]
        by_cases hz : ev = 0
        · have HD2 : Hid (arL (x, y) (n + 1) = arL (x, y) n ++ [(bx, bY, bs)]) := by unfold Hid; rw [HD.out, HO.out, if_pos (by simpa using hz)]
          subst hz
          clear HD HO
          obtain rfl | rfl | rfl | rfl : n = 0 ∨ n = 1 ∨ n = 2 ∨ n = 3 := by omega
          all_goals
            obtain ⟨rfl, rfl, rfl⟩ : (arB (x, y) _).1 = bx ∧ (arB (x, y) _).2.1 = bY ∧ (arB (x, y) _).2.2 = bs := by rw [HB.out]; exact ⟨rfl, rfl, rfl⟩
            simp only [arB] at hc hOa hN HD2
            go_wp2_with fail
            refine (hc _).mono ?_
            rintro e w3 ⟨rfl, hb3⟩
            have hO3 := hOa.below hb3
            have hN3 := hN.below hb3
            have fN := hN3.facts
            have hbw3 : Below w.heap.size w w3 := by (repeat (first | exact bl_refl | assumption | (apply bl_then; assumption) | refine bl_alloc ?_ _ | refine bl_drew ?_ | refine bl_drewN ?_ _))
            go_wp2_with (at_builtin; refine wpList_appB1 hO3 rfl _ _ rfl rfl rfl (by simp) (by omega) hbw3.size ?_; intro v6 w6 hown6 hgr6)
            have hb6 := own_step hO3 hgr6 (by (repeat (first | exact bl_refl | assumption | (apply bl_then; assumption) | refine bl_alloc ?_ _ | refine bl_drew ?_ | refine bl_drewN ?_ _)))
            clear hgr6
            go_wp2
            go_roundw
            case rel => first | exact ⟨0 + 1, by omega, rfl, by rw [HD2.out]; exact hown6, hb6⟩ | exact ⟨1 + 1, by omega, rfl, by rw [HD2.out]; exact hown6, hb6⟩ | exact ⟨2 + 1, by omega, rfl, by rw [HD2.out]; exact hown6, hb6⟩ | exact ⟨3 + 1, by omega, rfl, by rw [HD2.out]; exact hown6, hb6⟩
            case measure => simp [intOf]
        · have HD2 : Hid (arL (x, y) (n + 1) = arL (x, y) n) := by unfold Hid; rw [HD.out, HO.out, if_neg (by simpa using hz), List.append_nil]
          have hz' : (ev == 0) = false := by simpa using hz
          clear HD HO hz
          obtain rfl | rfl | rfl | rfl : n = 0 ∨ n = 1 ∨ n = 2 ∨ n = 3 := by omega
          all_goals
            obtain ⟨rfl, rfl, rfl⟩ : (arB (x, y) _).1 = bx ∧ (arB (x, y) _).2.1 = bY ∧ (arB (x, y) _).2.2 = bs := by rw [HB.out]; exact ⟨rfl, rfl, rfl⟩
            simp only [arB] at hc hOa hN
            go_wp2_with fail
            refine (hc _).mono ?_
            rintro e w3 ⟨rfl, hb3⟩
            have hO3 := hOa.below hb3
            have hbw3 : Below w.heap.size w w3 := by (repeat (first | exact bl_refl | assumption | (apply bl_then; assumption) | refine bl_alloc ?_ _ | refine bl_drew ?_ | refine bl_drewN ?_ _))
            go_wp2
            go_roundw
            case rel => first | exact ⟨0 + 1, by omega, rfl, by rw [HD2.out]; exact hO3, hbw3⟩ | exact ⟨1 + 1, by omega, rfl, by rw [HD2.out]; exact hO3, hbw3⟩ | exact ⟨2 + 1, by omega, rfl, by rw [HD2.out]; exact hO3, hbw3⟩ | exact ⟨3 + 1, by omega, rfl, by rw [HD2.out]; exact hO3, hbw3⟩
            case measure => simp [intOf]
      · obtain rfl : n = 4 := by omega
        go_wp2
        go_ret2
        exact ⟨_, by rw [HS.out.2]; rfl, by rw [HS.out.1]; exact hO, hbw⟩
  · have hE' : (knotE x y != 0) = true := by simpa using hE
    have HS : Hid (aroundL (x, y) = []) := by unfold Hid aroundL; rw [if_neg hE]
    clear hE
    go_enter Tryz.func68, Tryz.ntmps68
    go_wp2_with fail
    refine (nknot_any x y _).mono ?_
    rintro e w1 ⟨rfl, hb1⟩
    go_wp2
    go_ret2
    exact ⟨_, rfl, by rw [HS.out]; exact Own.nil_, by (repeat (first | exact bl_refl | assumption | (apply bl_then; assumption) | refine bl_alloc ?_ _ | refine bl_drew ?_ | refine bl_drewN ?_ _))⟩
end Go.Proofs.YtkmjcoofkgpanaaGreatDoor

/- Bars shifted, of the program, walked. Conditions: bars within bounds. -/
namespace Go.Proofs.YtkmjcoofkgpanaaGreatDoor
open Go.RowKit Go.ChangeMaps
set_option maxHeartbeats 4000000
set_option maxRecDepth 100000

theorem bad_in (x y s : Int) : firstI [reachI x y, reachI (x + s) (y + 1)] = if inB (x, y, s) then 0 else 3 := by
  rw [reachI_far, reachI_far]
  unfold inB
  simp only
  cases farB x <;> cases farB y <;> cases farB (x + s) <;> cases farB (y + 1) <;> rfl
def shE (d : Knot) (l : List Bar) : Int := if allIn (l.map (shB d)) then 0 else 3
def shL (d : Knot) (l : List Bar) : List Bar := if allIn (l.map (shB d)) then l.map (shB d) else []
theorem allIn_not {l : List Bar} {f : Bar → Bar} {k : Nat} (hk : k < l.length) (h : inB (f l[k]) = false) : allIn (l.map f) = false := by
  unfold allIn
  rw [List.all_eq_false]
  exact ⟨f l[k], List.mem_map_of_mem (List.getElem_mem hk), by rw [h]; simp⟩
theorem nshifted_any {v : Value} (l : List Bar) (dx dy : Int) (w : World) (h : SlB w v l) (hk : ∀ b ∈ l, BarOk b) (hlen : l.length ≤ 10000) (hdx : -500000 ≤ dx ∧ dx ≤ 500000) (hdy : -500000 ≤ dy ∧ dy ≤ 500000) :
    Calls Tryz.prog 96 #[v, .agg #[.int .i64 dx, .int .i64 dy]] w (RBE w (shL (dx, dy) l) (shE (dx, dy) l)) := by
  obtain ⟨A, c, rfl, hlc, hcm, h⟩ := h
  have HK := Lib.hid hk
  have hB := Blk.new w 23 #[.int .i64 dx, .int .i64 dy]
  clear hk
  go_enter Tryz.func96, Tryz.ntmps96
  go_wp2
  go_loopw [6, 13] (fun o i wr => ∃ k : Nat, k ≤ l.length ∧ i = .int .i64 k ∧ Hid (allIn ((l.take k).map (shB (dx, dy))) = true) ∧ OwB w.heap.size wr o ((l.take k).map (shB (dx, dy))) ∧ Blk wr w.heap.size 23 #[.int .i64 dx, .int .i64 dy] ∧ Below w.heap.size w wr) (fun _ i _ => l.length - (intOf i).toNat)
  case atStart => exact ⟨0, Nat.zero_le _, rfl, rfl, Own.nil_, hB, by (repeat (first | exact bl_refl | assumption | (apply bl_then; assumption) | refine bl_alloc ?_ _ | refine bl_drew ?_ | refine bl_drewN ?_ _))⟩
  case round =>
    clear hB
    obtain ⟨k, hk, rfl, HQ, hO, hBr, hbw⟩ := hrel
    obtain ⟨wo, rfl⟩ : ∃ x, x = wr := ⟨_, rfl⟩
    by_cases hlt : k < l.length
    · have hr := h.below hbw
      obtain ⟨b, off, rfl, hb, e0, e1, e2⟩ := hr.bar hlt
      have hbo := HK.out _ (List.getElem_mem hlt)
      have HD := Lib.hid (map_take (shB (dx, dy)) hlt)
      have HA := Lib.hid (allIn_take (f := shB (dx, dy)) hlt)
      have HN := Lib.hid (@allIn_not l (shB (dx, dy)) k hlt)
      have fB := hBr.facts
      obtain ⟨⟨x, y, s⟩, hx⟩ : ∃ z, l[k] = z := ⟨_, rfl⟩
      rw [hx] at e0 e1 e2 hbo HD HA HN
      simp only at e0 e1 e2
      clear hx
      obtain ⟨q1, q2, q3⟩ := hbo
      simp only at q1 q2 q3
      have hll : ((l.take k).map (shB (dx, dy))).length ≤ 10000 := by simp; omega
      obtain ⟨x1, hx1⟩ : ∃ x1, x + dx = x1 := ⟨_, rfl⟩
      obtain ⟨y1, hy1⟩ : ∃ y1, y + dy = y1 := ⟨_, rfl⟩
      have m1 : IntKind.i64.wrap (x + dx) = x1 := by rw [IntWalk.i64_in _ (by omega)]; omega
      have m2 : IntKind.i64.wrap (y + dy) = y1 := by rw [IntWalk.i64_in _ (by omega)]; omega
      have r1 : -1000000 ≤ x1 ∧ x1 ≤ 1000000 := by omega
      have r2 : -1000000 ≤ y1 ∧ y1 ≤ 1000000 := by omega
      have HS : Hid (shB (dx, dy) (x, y, s) = (x1, y1, s)) := by unfold Hid shB; rw [← hx1, ← hy1]
      clear hx1 hy1
      rw [HS.out] at HD HA HN
      have hN0 := Blk.new wo 60 #[.int .i64 x, .int .i64 y, .int .i64 s]
      have hBa := hBr.alloc (.cells #[.int .i64 x, .int .i64 y, .int .i64 s] 60)
      have hOa := hO.alloc (.cells #[.int .i64 x, .int .i64 y, .int .i64 s] 60)
      go_upto_region 5 with fail
      obtain ⟨w1, hw1⟩ : ∃ X, wo.alloc (.cells #[.int .i64 x, .int .i64 y, .int .i64 s] 60) = X := ⟨_, rfl⟩
      have hb1 : Below wo.heap.size wo w1 := by rw [← hw1]; exact bl_alloc bl_refl _
      rw [hw1] at hN0 hBa hOa ⊢
      have fN := hN0.facts
      have fBa := hBa.facts
      clear hw1 e0 e1 e2 hr fB hOa
      go_region
      go_upto_region 6 with fail
      obtain ⟨w2, hw2⟩ : ∃ X, ((w1.setCell ⟨wo.heap.size, 0, none⟩ (.int .i64 x1)).setCell ⟨wo.heap.size, 1, none⟩ (.int .i64 y1)).drew = X := ⟨_, rfl⟩
      have hN2 : Blk w2 wo.heap.size 60 #[.int .i64 x1, .int .i64 y1, .int .i64 s] := by
        rw [← hw2]
        exact ((hN0.set_ 0 (.int .i64 x1)).set_ 1 (.int .i64 y1)).drew
      have hb2 : Below wo.heap.size wo w2 := by
        rw [← hw2]
        exact bl_drew (bl_set (bl_set hb1 (Nat.le_refl _) _) (Nat.le_refl _) _)
      have hB2 := hBr.below hb2
      have hO2 := hO.below hb2
      have hbw2 := bl_then hb2 hbw
      have fN2 := hN2.facts
      rw [hw2]
      clear hw2 fN fBa hN0 hBa hb1
      go_wp2_with fail
      refine (nends_any x1 y1 s (by omega) (by omega) (by omega) _).mono ?_
      rintro e w3 ⟨rfl, hb3⟩
      have hN3 := (hN2.below hb3).alloc (.cells #[.int .i64 x1, .int .i64 y1, .int .i64 (x1 + s), .int .i64 (y1 + 1)] 97)
      have hB3 := (hB2.below hb3).alloc (.cells #[.int .i64 x1, .int .i64 y1, .int .i64 (x1 + s), .int .i64 (y1 + 1)] 97)
      have hO3 := (hO2.below hb3).alloc (.cells #[.int .i64 x1, .int .i64 y1, .int .i64 (x1 + s), .int .i64 (y1 + 1)] 97)
      have hE3 := Blk.new w3 97 #[.int .i64 x1, .int .i64 y1, .int .i64 (x1 + s), .int .i64 (y1 + 1)]
      have hbw3 : Below w.heap.size w (w3.alloc (.cells #[.int .i64 x1, .int .i64 y1, .int .i64 (x1 + s), .int .i64 (y1 + 1)] 97)) := by (repeat (first | exact bl_refl | assumption | (apply bl_then; assumption) | refine bl_alloc ?_ _ | refine bl_drew ?_ | refine bl_drewN ?_ _))
      clear fN2 hN2 hB2 hO2 hO hBr
      go_upto_region 7 with fail
      obtain ⟨w4, hw4⟩ : ∃ X, w3.alloc (.cells #[.int .i64 x1, .int .i64 y1, .int .i64 (x1 + s), .int .i64 (y1 + 1)] 97) = X := ⟨_, rfl⟩
      rw [hw4] at hN3 hB3 hO3 hE3 hbw3 ⊢
      have fE3 := hE3.facts
      clear hw4
      have hF : ∀ A c W, Rd ic 1 W A [reachI x1 y1, reachI (x1 + s) (y1 + 1)] → Calls Tryz.prog 83 #[.slice A 2 c] W (RV W (.int .i64 (if inB (x1, y1, s) then 0 else 3))) := fun A c W hr => by
        rw [← bad_in]
        exact nfirst_any [reachI x1 y1, reachI (x1 + s) (y1 + 1)] A c W (by simp [maxLen]) hr
      refine wp_region_ords [0, 1, 3, 4] [(2, false)] [5, 6, 7, 8] (by kernel_rfl) (by kernel_rfl) (fun d _ _ _ _ h => by cases d <;> exact h) ?_
      simp only [List.map_cons, List.map_nil, List.getD_cons_zero, List.getD_cons_succ]
      repeat (go_big_quiet_step (fail))
      refine wpQuiet_nil ?_
      refine wpMid_run rfl (fun K hK => ?_)
      go_simp
      refine (nreach_any x1 y1 _).mono ?_
      rintro e w5 ⟨rfl, hb5⟩
      refine hK _ _ (by (repeat (first | exact bl_refl | assumption | (apply bl_then; assumption) | refine bl_alloc ?_ _ | refine bl_drew ?_ | refine bl_drewN ?_ _))) ?_
      clear hK K
      have hE3_w5 := hE3.below (show Below _ _ w5 by (repeat (first | exact bl_refl | assumption | (apply bl_then; assumption) | refine bl_alloc ?_ _ | refine bl_drew ?_ | refine bl_drewN ?_ _)))
      have fhE3_w5 := hE3_w5.facts
      refine wpMid_nil ?_
      go_wp2_with fail
      refine (nreach_any (x1 + s) (y1 + 1) _).mono ?_
      rintro e w6 ⟨rfl, hb6⟩
      go_wp2_with fail
      go_must (refine (hF _ _ _ (Rd.ints2 (by simp) (by go_simp) (by go_simp))).mono ?_)
      rintro e w7 ⟨rfl, hb7⟩
      have hb47 : Below w4.heap.size w4 w7 := by (repeat (first | exact bl_refl | assumption | (apply bl_then; assumption) | refine bl_alloc ?_ _ | refine bl_drew ?_ | refine bl_drewN ?_ _))
      have hN7 := hN3.below hb47
      have hB7 := hB3.below hb47
      have hO7 := hO3.below hb47
      have hbw7 := bl_then hb47 hbw3
      have fN7 := hN7.facts
      clear hF fE3
      obtain ⟨q, hq⟩ : ∃ q, inB (x1, y1, s) = q := ⟨_, rfl⟩
      rw [hq] at HA HN ⊢
      clear hq
      cases q
      · have HL : Hid (shL (dx, dy) l = [] ∧ shE (dx, dy) l = 3) := by
          unfold Hid shL shE
          rw [HN.out rfl]
          exact ⟨rfl, rfl⟩
        simp only [Bool.false_eq_true, if_false]
        go_wp2
        go_ret2
        exact ⟨_, by rw [HL.out.2]; rfl, by rw [HL.out.1]; exact Own.nil_, hbw7⟩
      · simp only [if_true]
        go_wp2_with (at_builtin; refine wpList_appB1 hO7 rfl _ _ rfl rfl rfl (by simp) (by omega) hbw7.size ?_; intro v8 w8 hown8 hgr8)
        have hb8 := own_step hO7 hgr8 (by (repeat (first | exact bl_refl | assumption | (apply bl_then; assumption) | refine bl_alloc ?_ _ | refine bl_drew ?_ | refine bl_drewN ?_ _)))
        have hB8 := (hB7.alloc (.cells #[.int .i64 x1, .int .i64 y1, .int .i64 s] 60)).grown hgr8 (hO7.ne_blk hB7 (by decide))
        clear hgr8
        go_wp2
        go_roundw
        case rel => exact ⟨k + 1, by omega, by go_num, by unfold Hid; rw [HA.out, HQ.out]; rfl, by rw [HD.out]; exact hown8, hB8, hb8⟩
        case measure => simp [intOf]; omega
    · have HE : Hid (l.map (shB (dx, dy)) = (l.take k).map (shB (dx, dy))) := by unfold Hid; rw [List.take_of_length_le (by omega)]
      have HL : Hid (shL (dx, dy) l = (l.take k).map (shB (dx, dy)) ∧ shE (dx, dy) l = 0) := by
        unfold Hid shL shE
        rw [HE.out, if_pos HQ.out, if_pos HQ.out]
        exact ⟨rfl, rfl⟩
      go_wp2
      go_ret2
      exact ⟨_, by rw [HL.out.2]; rfl, by rw [HL.out.1]; exact hO, hbw⟩
end Go.Proofs.YtkmjcoofkgpanaaGreatDoor

/- Mirror, Turn and Shift of the program, walked. Conditions: the slices read as lists. -/
namespace Go.Proofs.YtkmjcoofkgpanaaGreatDoor
open Go.RowKit Go.ChangeMaps
set_option maxHeartbeats 4000000
set_option maxRecDepth 100000

theorem clone_any {v : Value} (l : List Bar) (w : World) (h : SlB w v l) (hlen : l.length ≤ 100000) : Calls Tryz.prog 119 #[v] w (RB w l) := by
  obtain ⟨A, c, rfl, hlc, hcm, hr⟩ := h
  cases A with
  | none =>
    have hl : l = [] := by
      cases l with
      | nil => rfl
      | cons x r =>
        obtain ⟨b, off, he, _⟩ := hr 0 x rfl
        cases he
    subst hl
    have heq : ∀ W, (binOp .eql 26 (.slice none 0 c) (.slice none 0 0)).run Tryz.prog W = .ok (.bool true) W := fun W => Lib.run_eql_slice_nil (P := Tryz.prog) W 26 60 none 0 c 0 0 Tryz.underlying26
    go_enter Tryz.func119, Tryz.ntmps119
    go_wp2
    go_ret
    exact ⟨_, rfl, Own.nil_, by (repeat (first | exact bl_refl | assumption | (apply bl_then; assumption) | refine bl_alloc ?_ _ | refine bl_drew ?_ | refine bl_drewN ?_ _))⟩
  | some a =>
    have h : SlB w (.slice (some a) l.length c) l := ⟨some a, c, rfl, hlc, hcm, hr⟩
    clear hr
    have heq : ∀ W, (binOp .eql 26 (.slice (some a) l.length c) (.slice none 0 0)).run Tryz.prog W = .ok (.bool false) W := fun W => Lib.run_eql_slice_nil (P := Tryz.prog) W 26 60 (some a) l.length c 0 0 Tryz.underlying26
    go_enter Tryz.func119, Tryz.ntmps119
    go_wp2_with (at_builtin; refine wpList_appBS (Own.empty bc 3 w _) (h.alloc _) rfl _ _ rfl rfl rfl (by simp; omega) (by simp) ?_; intro v2 w2 hown2 hgr2)
    have hb2 : Below w.heap.size w w2 := bl_grown hgr2 (bl_alloc bl_refl _) fun k hk => by simp [Value.ownBlock] at hk; omega
    go_ret
    exact ⟨_, rfl, by simpa using hown2, hb2⟩

/-- both ends of a bar are within their range, and its side is one of both -/
structure EndsIn (b : Bar) : Prop where
  x : -100000 ≤ b.1 ∧ b.1 ≤ 100000
  y : -100000 ≤ b.2.1 ∧ b.2.1 ≤ 100000
  x2 : -100000 ≤ b.1 + b.2.2 ∧ b.1 + b.2.2 ≤ 100000
  y2 : -100000 ≤ b.2.1 + 1 ∧ b.2.1 + 1 ≤ 100000
  s : b.2.2 = 1 ∨ b.2.2 = -1
theorem EndsIn.ok {b : Bar} (h : EndsIn b) : BarOk b := ⟨by have := h.x; omega, by have := h.y; omega, h.s⟩
theorem EndsIn.turn {b : Bar} (h : EndsIn b) : EndsIn (turnB b) := by
  obtain ⟨x, y, s⟩ := b
  obtain ⟨h1, h2, h3, h4, h5⟩ := h
  simp only at h1 h2 h3 h4 h5
  rcases h5 with rfl | rfl
  · have e : turnB (x, y, 1) = (-y, x, -1) := by
      unfold turnB btwB
      simp only
      rw [if_neg (by omega)]
      simp only [Prod.mk.injEq, true_and]
      omega
    rw [e]
    exact ⟨by simp only; omega, by simp only; omega, by simp only; omega, by simp only; omega, .inr rfl⟩
  · have e : turnB (x, y, -1) = (-(y + 1), x - 1, 1) := by
      unfold turnB btwB
      simp only
      rw [if_pos (by omega)]
      have e1 : x + -1 = x - 1 := by omega
      have e2 : -y - -(y + 1) = 1 := by omega
      rw [e1, e2]
    rw [e]
    exact ⟨by simp only; omega, by simp only; omega, by simp only; omega, by simp only; omega, .inl rfl⟩
theorem EndsIn.mir {b : Bar} (h : EndsIn b) : EndsIn (mirB b) := by
  obtain ⟨x, y, s⟩ := b
  obtain ⟨h1, h2, h3, h4, h5⟩ := h
  unfold mirB
  simp only at h1 h2 h3 h4 h5 ⊢
  constructor <;> simp only <;> omega
theorem barE_ends {x y s : Int} (h : barE x y s = 0) : EndsIn (x, y, s) := by
  unfold barE at h
  split at h
  · rename_i h1
    exact absurd h (by simpa using h1)
  · rename_i h1
    obtain ⟨a1, a2, a3, a4, _⟩ := knotE_zero (by simpa using h1)
    split at h
    · cases h
    · rename_i h2
      obtain ⟨b1, b2, b3, b4, _⟩ := knotE_zero h
      exact ⟨⟨a1, a2⟩, ⟨a3, a4⟩, ⟨b1, b2⟩, ⟨b3, b4⟩, by simp only; omega⟩
theorem netGo_ends : ∀ (l : List Bar) (p : Option Bar), netGo p l = 0 → ∀ b ∈ l, EndsIn b
  | [], _, _ => by simp
  | b :: r, p, h => by
    unfold netGo at h
    split at h
    · rename_i h1
      exact absurd h h1
    · rename_i h1
      split at h
      · cases h
      · intro c hc
        rcases List.mem_cons.1 hc with rfl | hc
        · exact barE_ends (by simpa using h1)
        · exact netGo_ends r (some b) h c hc
theorem netE_ends {l : List Bar} (h : netE l = 0) : ∀ b ∈ l, EndsIn b := by
  unfold netE at h
  split at h
  · cases h
  · exact netGo_ends l none h
def mirK (k : Knot) : Knot := (-k.1, k.2)
def turnK (k : Knot) : Knot := (-k.2, k.1)
theorem mvB_mir {b : Bar} : mvB mirK b = mirB b := by
  obtain ⟨x, y, s⟩ := b
  unfold mvB mirK mirB btwB lowK uppK
  simp only
  rw [if_neg (by omega)]
  simp only [Prod.mk.injEq, true_and]
  omega
theorem mvB_turn (b : Bar) : mvB turnK b = turnB b := rfl
def mirN (l : List Bar) : List Bar := srtB (l.map (mvB mirK))
def turnN : Nat → List Bar → List Bar
  | 0, l => l
  | n + 1, l => srtB ((turnN n l).map (mvB turnK))
theorem turnN_ends {l : List Bar} (h : ∀ b ∈ l, EndsIn b) : ∀ n, ∀ b ∈ turnN n l, EndsIn b
  | 0 => h
  | n + 1 => fun b hb => by
    unfold turnN at hb
    rw [srtB_mem, List.mem_map] at hb
    obtain ⟨c, hc, rfl⟩ := hb
    exact (turnN_ends h n c hc).turn
theorem turnN_len (l : List Bar) : ∀ n, (turnN n l).length = l.length
  | 0 => rfl
  | n + 1 => by
    unfold turnN
    rw [srtB_length, List.length_map, turnN_len l n]
theorem mir_near (k : Knot) (h : nearK k) : nearK (mirK k) := by unfold nearK mirK at *; simp only; omega
theorem turn_near (k : Knot) (h : nearK k) : nearK (turnK k) := by unfold nearK turnK at *; simp only; omega
theorem mirG (k : Knot) (W : World) (h : nearK k) : Calls Tryz.prog 95 #[.agg #[.int .i64 k.1, .int .i64 k.2]] W (RV W (.agg #[.int .i64 (mirK k).1, .int .i64 (mirK k).2])) := mirrored_any k.1 k.2 h.1 W
theorem turnG (k : Knot) (W : World) (h : nearK k) : Calls Tryz.prog 99 #[.agg #[.int .i64 k.1, .int .i64 k.2]] W (RV W (.agg #[.int .i64 (turnK k).1, .int .i64 (turnK k).2])) := turned_any k.1 k.2 h.2 W
theorem apiMirror_any {v : Value} (l : List Bar) (w : World) (h : SlB w v l) : Calls Tryz.prog 57 #[v] w (RBE w (onlyOk (netE l) (mirN l)) (netE l)) := by
  by_cases hE : netE l = 0
  · have hok := netE_ok hE
    have hE' : (netE l != 0) = false := by simp [hE]
    have HS : Hid (onlyOk (netE l) (mirN l) = mirN l ∧ netE l = 0) := by unfold Hid onlyOk; rw [if_pos hE]; exact ⟨rfl, hE⟩
    clear hE
    go_enter Tryz.func57, Tryz.ntmps57
    go_wp2_with (first | (go_at_call 64; refine (nnet_sl l _ h).mono ?_; rintro e w1 ⟨rfl, hb1⟩; (first | replace h := h.st0 hb1 | replace h := h.st1 hb1 | replace h := h.std hb1 | replace h := h.std1 hb1 | replace h := h.st2 hb1 | replace h := h.std2 hb1 | replace h := h.st3 hb1)) | (go_at_call 94; refine (moved_any mirK _ (.inl rfl) mirG mir_near l _ h hok.ok hok.len1).mono ?_; rintro e w2 ⟨v2, rfl, hown2, hb2⟩))
    go_ret2
    exact ⟨_, by rw [HS.out.2]; rfl, by rw [HS.out.1]; exact hown2.base_mono hb1.size, by (repeat (first | exact bl_refl | assumption | (apply bl_then; assumption) | refine bl_alloc ?_ _ | refine bl_drew ?_ | refine bl_drewN ?_ _))⟩
  · have hE' : (netE l != 0) = true := by simpa using hE
    have HS : Hid (onlyOk (netE l) (mirN l) = []) := by unfold Hid onlyOk; rw [if_neg hE]
    clear hE
    go_enter Tryz.func57, Tryz.ntmps57
    go_wp2_with (go_at_call 64; refine (nnet_sl l _ h).mono ?_; rintro e w1 ⟨rfl, hb1⟩; (first | replace h := h.st0 hb1 | replace h := h.st1 hb1 | replace h := h.std hb1 | replace h := h.std1 hb1 | replace h := h.st2 hb1 | replace h := h.std2 hb1 | replace h := h.st3 hb1))
    go_ret2
    exact ⟨_, rfl, by rw [HS.out]; exact Own.nil_, by (repeat (first | exact bl_refl | assumption | (apply bl_then; assumption) | refine bl_alloc ?_ _ | refine bl_drew ?_ | refine bl_drewN ?_ _))⟩
/-- by how many quarters -/
def qN (q : Int) : Nat := ((q.tmod 4 + 4).tmod 4).toNat
theorem qN_eq (q : Int) : (wrap64 (q.tmod 4 + 4)).tmod 4 = (qN q : Int) := by
  have h1 := Int.tmod_lt_of_pos q (b := 4) (by decide)
  have h2 : -4 < q.tmod 4 := by rw [Int.tmod_eq_emod]; split <;> omega
  have h3 : wrap64 (q.tmod 4 + 4) = q.tmod 4 + 4 := IntWalk.wrap64_in _ (by omega)
  rw [h3]
  unfold qN
  have : 0 ≤ (q.tmod 4 + 4).tmod 4 := Int.tmod_nonneg _ (by omega)
  omega
theorem apiTurn_any {v : Value} (l : List Bar) (q : Int) (w : World) (h : SlB w v l) : Calls Tryz.prog 58 #[v, .int .i64 q] w (RBE w (onlyOk (netE l) (turnN (qN q) l)) (netE l)) := by
  by_cases hE : netE l = 0
  · have hok := netE_ok hE
    have hends := Lib.hid (netE_ends hE)
    have hE' : (netE l != 0) = false := by simp [hE]
    have HS : Hid (onlyOk (netE l) (turnN (qN q) l) = turnN (qN q) l ∧ netE l = 0) := by unfold Hid onlyOk; rw [if_pos hE]; exact ⟨rfl, hE⟩
    have HO := Lib.hid hok
    have hlen := hok.len
    clear hE hok
    go_enter Tryz.func58, Tryz.ntmps58
    go_wp2_with (first | (go_at_call 64; refine (nnet_sl l _ h).mono ?_; rintro e w1 ⟨rfl, hb1⟩; (first | replace h := h.st0 hb1 | replace h := h.st1 hb1 | replace h := h.std hb1 | replace h := h.std1 hb1 | replace h := h.st2 hb1 | replace h := h.std2 hb1 | replace h := h.st3 hb1)) | (go_at_call 119; refine (clone_any l _ h (by omega)).mono ?_; rintro e w2 ⟨v2, rfl, hown2, hb2⟩))
    have hbw2 : Below w.heap.size w w2 := by (repeat (first | exact bl_refl | assumption | (apply bl_then; assumption) | refine bl_alloc ?_ _ | refine bl_drew ?_ | refine bl_drewN ?_ _))
    have hO2 := hown2.base_mono (show w.heap.size ≤ w1.heap.size from hb1.size)
    have hqn := qN_eq q
    obtain ⟨m, hm⟩ : ∃ m, qN q = m := ⟨_, rfl⟩
    have hm3 : m ≤ 3 := by
      have h1 := Int.tmod_lt_of_pos (q.tmod 4 + 4) (b := 4) (by decide)
      rw [← hm]
      unfold qN
      omega
    rw [hm] at hqn
    have HM := Lib.hid hm
    go_upto_region 6 with fail
    rw [hqn]
    clear hm hb1 hb2 hown2 hqn
    go_loopw [7, 19] (fun o i wr => ∃ n : Nat, n ≤ m ∧ i = .int .i64 n ∧ OwB w.heap.size wr o (turnN n l) ∧ Below w.heap.size w wr) (fun _ i _ => m - (intOf i).toNat)
    case atStart => exact ⟨0, Nat.zero_le _, rfl, hO2, hbw2⟩
    case round =>
      clear hO2 hbw2
      obtain ⟨n, hn, rfl, hO, hbw⟩ := hrel
      obtain ⟨wo, rfl⟩ : ∃ x, x = wr := ⟨_, rfl⟩
      by_cases hnm : n < m
      · have hl2 := turnN_len l n
        go_wp2_with fail
        refine (moved_any turnK _ (.inr rfl) turnG turn_near _ _ (hO.rd bc_len) (fun b hb => (turnN_ends hends.out n b hb).ok) (by omega)).mono ?_
        rintro e w3 ⟨v3, rfl, hO3, hb3⟩
        have hO3' : OwB w.heap.size w3 v3 (turnN (n + 1) l) := hO3.base_mono hbw.size
        go_wp2
        go_roundw
        case rel => exact ⟨n + 1, by omega, by go_num, hO3', bl_then hb3 hbw⟩
        case measure => simp [intOf]; omega
      · have hnm2 : n = m := by omega
        rw [hnm2, ← HM.out] at hO
        clear hnm2
        go_wp2
        go_ret2
        exact ⟨_, by rw [HS.out.2]; rfl, by rw [HS.out.1]; exact hO, hbw⟩
  · have hE' : (netE l != 0) = true := by simpa using hE
    have HS : Hid (onlyOk (netE l) (turnN (qN q) l) = []) := by unfold Hid onlyOk; rw [if_neg hE]
    clear hE
    go_enter Tryz.func58, Tryz.ntmps58
    go_wp2_with (go_at_call 64; refine (nnet_sl l _ h).mono ?_; rintro e w1 ⟨rfl, hb1⟩; (first | replace h := h.st0 hb1 | replace h := h.st1 hb1 | replace h := h.std hb1 | replace h := h.std1 hb1 | replace h := h.st2 hb1 | replace h := h.std2 hb1 | replace h := h.st3 hb1))
    go_ret2
    exact ⟨_, rfl, by rw [HS.out]; exact Own.nil_, by (repeat (first | exact bl_refl | assumption | (apply bl_then; assumption) | refine bl_alloc ?_ _ | refine bl_drew ?_ | refine bl_drewN ?_ _))⟩
end Go.Proofs.YtkmjcoofkgpanaaGreatDoor

/- Shift, and two nets compared, of the program, walked. Conditions: the slices read as lists. -/
namespace Go.Proofs.YtkmjcoofkgpanaaGreatDoor
open Go.RowKit Go.ChangeMaps
set_option maxHeartbeats 4000000
set_option maxRecDepth 100000

def shiftE (l : List Bar) (x y : Int) : Int := if degE l x y = 0 then shE (x, y) l else degE l x y
def shiftL (l : List Bar) (x y : Int) : List Bar := if degE l x y = 0 then shL (x, y) l else []
theorem apiShift_any {v : Value} (l : List Bar) (x y : Int) (w : World) (h : SlB w v l) : Calls Tryz.prog 56 #[v, .agg #[.int .i64 x, .int .i64 y]] w (RBE w (shiftL l x y) (shiftE l x y)) := by
  have hB := Blk.new w 23 #[.int .i64 x, .int .i64 y]
  have h0 := h.alloc (.cells #[.int .i64 x, .int .i64 y] 23)
  have fB := hB.facts
  by_cases hE : degE l x y = 0
  · obtain ⟨hz, hk⟩ := firstI_zero hE
    obtain ⟨z1, z2, z3, z4, _⟩ := knotE_zero hk
    have hok := netE_ok hz
    have HZ := Lib.hid hz
    have HS : Hid (shiftL l x y = shL (x, y) l ∧ shiftE l x y = shE (x, y) l) := by unfold Hid shiftL shiftE; rw [if_pos hE, if_pos hE]; exact ⟨rfl, rfl⟩
    have hF : ∀ A c W, Rd ic 1 W A [netE l, knotE x y] → Calls Tryz.prog 83 #[.slice A 2 c] W (RV W (.int .i64 0)) := fun A c W hr => by
      have := nfirst_any [netE l, knotE x y] A c W (by simp [maxLen]) hr
      rwa [show firstI [netE l, knotE x y] = 0 from hE] at this
    clear hE hz hk
    go_enter Tryz.func56, Tryz.ntmps56
    go_wp2
    refine wp_region_ords [0, 2] [(1, false)] [3, 4, 5, 6] (by kernel_rfl) (by kernel_rfl) (fun d _ _ _ _ h => by cases d <;> exact h) ?_
    simp only [List.map_cons, List.map_nil, List.getD_cons_zero, List.getD_cons_succ]
    repeat (go_big_quiet_step (fail))
    refine wpQuiet_nil ?_
    refine wpMid_run rfl (fun K hK => ?_)
    go_simp
    refine (nnet_sl l _ (h0.below (by (repeat (first | exact bl_refl | assumption | (apply bl_then; assumption) | refine bl_alloc ?_ _ | refine bl_drew ?_ | refine bl_drewN ?_ _))))).mono ?_
    rintro e w1 ⟨rfl, hb1⟩
    refine hK _ _ (by (repeat (first | exact bl_refl | assumption | (apply bl_then; assumption) | refine bl_alloc ?_ _ | refine bl_drew ?_ | refine bl_drewN ?_ _))) ?_
    clear hK K
    have hB_w1 := hB.below (show Below _ _ w1 by (repeat (first | exact bl_refl | assumption | (apply bl_then; assumption) | refine bl_alloc ?_ _ | refine bl_drew ?_ | refine bl_drewN ?_ _)))
    have fhB_w1 := hB_w1.facts
    refine wpMid_nil ?_
    have h1 := h0.below (show Below _ _ w1 by (repeat (first | exact bl_refl | assumption | (apply bl_then; assumption) | refine bl_alloc ?_ _ | refine bl_drew ?_ | refine bl_drewN ?_ _)))
    go_wp2_with (first | (go_at_call 66; refine (nknot_any x y _).mono ?_; rintro e w2 ⟨rfl, hb2⟩; have hB2 := hB_w1.below hb2; have fB2 := hB2.facts) | (go_at_call 83; go_must (refine (hF _ _ _ (Rd.ints2 (by simp) (by go_simp) (by go_simp))).mono ?_); rintro e w3 ⟨rfl, hb3⟩; have hB3 := ((hB2.alloc (.cells #[.int .i64 (netE l), .int .i64 (knotE x y)] 27)).below hb3); have fB3 := hB3.facts))
    have h3 := (h1.below hb2).below (show Below _ _ w3 by (repeat (first | exact bl_refl | assumption | (apply bl_then; assumption) | refine bl_alloc ?_ _ | refine bl_drew ?_ | refine bl_drewN ?_ _)))
    refine (nshifted_any l x y _ h3 hok.ok hok.len1 (by omega) (by omega)).mono ?_
    rintro e w4 ⟨v4, rfl, hO4, hb4⟩
    have hbw3 : Below w.heap.size w w3 := by (repeat (first | exact bl_refl | assumption | (apply bl_then; assumption) | refine bl_alloc ?_ _ | refine bl_drew ?_ | refine bl_drewN ?_ _))
    go_wp2
    go_ret2
    exact ⟨_, by rw [HS.out.2]; rfl, by rw [HS.out.1]; exact hO4.base_mono hbw3.size, by (repeat (first | exact bl_refl | assumption | (apply bl_then; assumption) | refine bl_alloc ?_ _ | refine bl_drew ?_ | refine bl_drewN ?_ _))⟩
  · have HS : Hid (shiftL l x y = [] ∧ shiftE l x y = degE l x y) := by unfold Hid shiftL shiftE; rw [if_neg hE, if_neg hE]; exact ⟨rfl, rfl⟩
    have hE' : (degE l x y != 0) = true := by simpa using hE
    have hF : ∀ A c W, Rd ic 1 W A [netE l, knotE x y] → Calls Tryz.prog 83 #[.slice A 2 c] W (RV W (.int .i64 (degE l x y))) := fun A c W hr => nfirst_any [netE l, knotE x y] A c W (by simp [maxLen]) hr
    clear hE
    go_enter Tryz.func56, Tryz.ntmps56
    go_wp2
    refine wp_region_ords [0, 2] [(1, false)] [3, 4, 5, 6] (by kernel_rfl) (by kernel_rfl) (fun d _ _ _ _ h => by cases d <;> exact h) ?_
    simp only [List.map_cons, List.map_nil, List.getD_cons_zero, List.getD_cons_succ]
    repeat (go_big_quiet_step (fail))
    refine wpQuiet_nil ?_
    refine wpMid_run rfl (fun K hK => ?_)
    go_simp
    refine (nnet_sl l _ (h0.below (by (repeat (first | exact bl_refl | assumption | (apply bl_then; assumption) | refine bl_alloc ?_ _ | refine bl_drew ?_ | refine bl_drewN ?_ _))))).mono ?_
    rintro e w1 ⟨rfl, hb1⟩
    refine hK _ _ (by (repeat (first | exact bl_refl | assumption | (apply bl_then; assumption) | refine bl_alloc ?_ _ | refine bl_drew ?_ | refine bl_drewN ?_ _))) ?_
    clear hK K
    have hB_w1 := hB.below (show Below _ _ w1 by (repeat (first | exact bl_refl | assumption | (apply bl_then; assumption) | refine bl_alloc ?_ _ | refine bl_drew ?_ | refine bl_drewN ?_ _)))
    have fhB_w1 := hB_w1.facts
    refine wpMid_nil ?_
    go_wp2_with (first | (go_at_call 66; refine (nknot_any x y _).mono ?_; rintro e w2 ⟨rfl, hb2⟩) | (go_at_call 83; go_must (refine (hF _ _ _ (Rd.ints2 (by simp) (by go_simp) (by go_simp))).mono ?_); rintro e w3 ⟨rfl, hb3⟩))
    go_ret2
    exact ⟨_, by rw [HS.out.2]; rfl, by rw [HS.out.1]; exact Own.nil_, by (repeat (first | exact bl_refl | assumption | (apply bl_then; assumption) | refine bl_alloc ?_ _ | refine bl_drew ?_ | refine bl_drewN ?_ _))⟩
/-- two lists of bars, by their first difference, then by their length -/
def cmpL : List Bar → List Bar → Int
  | [], [] => 0
  | [], _ :: _ => -1
  | _ :: _, [] => 1
  | a :: l, b :: r => if barCmp a.1 a.2.1 a.2.2 b.1 b.2.1 b.2.2 ≠ 0 then barCmp a.1 a.2.1 a.2.2 b.1 b.2.1 b.2.2 else cmpL l r
theorem cmpL_drop {l r : List Bar} {k : Nat} (hl : k < l.length) (hr : k < r.length) : cmpL (l.drop k) (r.drop k) = if barCmp l[k].1 l[k].2.1 l[k].2.2 r[k].1 r[k].2.1 r[k].2.2 ≠ 0 then barCmp l[k].1 l[k].2.1 l[k].2.2 r[k].1 r[k].2.1 r[k].2.2 else cmpL (l.drop (k + 1)) (r.drop (k + 1)) := by
  rw [List.drop_eq_getElem_cons hl, List.drop_eq_getElem_cons hr, cmpL]
theorem cmpL_long {l r : List Bar} {k : Nat} (hl : k < l.length) (hr : r.length ≤ k) : cmpL (l.drop k) (r.drop k) = 1 := by
  rw [List.drop_eq_getElem_cons hl, List.drop_eq_nil_of_le hr, cmpL]
theorem cmpL_end {l r : List Bar} {k : Nat} (hl : l.length = k) (hk : k ≤ r.length) : cmpL (l.drop k) (r.drop k) = if l.length < r.length then -1 else 0 := by
  rw [List.drop_eq_nil_of_le (by omega)]
  by_cases h : k < r.length
  · rw [List.drop_eq_getElem_cons h, if_pos (by omega), cmpL]
  · rw [List.drop_eq_nil_of_le (by omega), if_neg (by omega), cmpL]
theorem compareF_any {v u : Value} (l r : List Bar) (w : World) (h : SlB w v l) (h' : SlB w u r) :
    Calls Tryz.prog 97 #[v, u, .func (.func 98) #[] #[]] w (RV w (.int .i64 (cmpL l r))) := by
  obtain ⟨A, c, rfl, hlc, hcm, h⟩ := h
  obtain ⟨A', c', rfl, hlc', hcm', h'⟩ := h'
  have hl : l.length ≤ maxLen := Nat.le_trans hlc hcm
  have hl' : r.length ≤ maxLen := Nat.le_trans hlc' hcm'
  unfold maxLen at hl hl'
  go_enter Tryz.func97, Tryz.ntmps97
  go_wp2
  go_loopw [13] (fun i wr => ∃ k : Nat, k ≤ l.length ∧ k ≤ r.length ∧ i = .int .i64 k ∧ Hid (cmpL l r = cmpL (l.drop k) (r.drop k)) ∧ Below w.heap.size w wr) (fun i _ => l.length - (intOf i).toNat)
  case atStart => exact ⟨0, Nat.zero_le _, Nat.zero_le _, rfl, by simp [Hid], by (repeat (first | exact bl_refl | assumption | (apply bl_then; assumption) | refine bl_alloc ?_ _ | refine bl_drew ?_ | refine bl_drewN ?_ _))⟩
  case round =>
    obtain ⟨k, hk, hkr, rfl, H, hbw⟩ := hrel
    obtain ⟨wo, rfl⟩ : ∃ x, x = wr := ⟨_, rfl⟩
    by_cases hlt : k < l.length
    · have hr := h.below hbw
      obtain ⟨b, off, rfl, hb, e0, e1, e2⟩ := hr.bar hlt
      by_cases hlt' : k < r.length
      · have hr' := h'.below hbw
        obtain ⟨b', off', rfl, hb', d0, d1, d2⟩ := hr'.bar hlt'
        have HD := Lib.hid (cmpL_drop hlt hlt')
        obtain ⟨⟨x, y, s⟩, hx⟩ : ∃ z, l[k] = z := ⟨_, rfl⟩
        obtain ⟨⟨x', y', s'⟩, hx'⟩ : ∃ z, r[k] = z := ⟨_, rfl⟩
        rw [hx, hx'] at HD
        rw [hx] at e0 e1 e2
        rw [hx'] at d0 d1 d2
        simp only at e0 e1 e2 d0 d1 d2 HD
        obtain ⟨cv, hcv⟩ : ∃ q, barCmp x y s x' y' s' = q := ⟨_, rfl⟩
        have hc := fun W => ncompare_any x y s x' y' s' W
        rw [hcv] at hc HD
        clear hx hx' hcv
        have hge : ((r.length : Int) ≤ (k : Int)) = False := eq_false (by omega)
        by_cases hz : cv = 0
        · have hn : (cv != 0) = false := by simp [hz]
          have H2 : Hid (cmpL l r = cmpL (l.drop (k + 1)) (r.drop (k + 1))) := by unfold Hid; rw [H.out, HD.out, if_neg (by simpa using hz)]
          clear hz HD
          go_wp2_with (go_at_call 98; refine (hc _).mono ?_; rintro e w4 ⟨rfl, hb4⟩)
          go_roundw
          case rel => exact ⟨k + 1, by omega, by omega, by go_num, H2, by (repeat (first | exact bl_refl | assumption | (apply bl_then; assumption) | refine bl_alloc ?_ _ | refine bl_drew ?_ | refine bl_drewN ?_ _))⟩
          case measure => simp [intOf]; omega
        · have hn : (cv != 0) = true := by simpa using hz
          have H2 : Hid (cmpL l r = cv) := by unfold Hid; rw [H.out, HD.out, if_pos hz]
          clear hz HD
          go_wp2_with (go_at_call 98; refine (hc _).mono ?_; rintro e w4 ⟨rfl, hb4⟩)
          go_ret
          exact ⟨by rw [H2.out]; rfl, by (repeat (first | exact bl_refl | assumption | (apply bl_then; assumption) | refine bl_alloc ?_ _ | refine bl_drew ?_ | refine bl_drewN ?_ _))⟩
      · have hge : ((r.length : Int) ≤ (k : Int)) = True := eq_true (by omega)
        have H2 : Hid (cmpL l r = 1) := by unfold Hid; rw [H.out, cmpL_long hlt (by omega)]
        go_wp2
        go_ret
        exact ⟨by rw [H2.out]; rfl, by (repeat (first | exact bl_refl | assumption | (apply bl_then; assumption) | refine bl_alloc ?_ _ | refine bl_drew ?_ | refine bl_drewN ?_ _))⟩
    · have hkl : l.length = k := by omega
      have H2 := cmpL_end hkl hkr
      rw [← H.out] at H2
      have H3 := Lib.hid H2
      clear H2 hkl
      by_cases hll : l.length < r.length
      · have t : ((l.length : Int) < (r.length : Int)) = True := eq_true (by omega)
        go_wp2
        go_ret
        exact ⟨by rw [H3.out, if_pos hll]; rfl, by (repeat (first | exact bl_refl | assumption | (apply bl_then; assumption) | refine bl_alloc ?_ _ | refine bl_drew ?_ | refine bl_drewN ?_ _))⟩
      · have t : ((l.length : Int) < (r.length : Int)) = False := eq_false (by omega)
        go_wp2
        go_ret
        exact ⟨by rw [H3.out, if_neg hll]; rfl, by (repeat (first | exact bl_refl | assumption | (apply bl_then; assumption) | refine bl_alloc ?_ _ | refine bl_drew ?_ | refine bl_drewN ?_ _))⟩
end Go.Proofs.YtkmjcoofkgpanaaGreatDoor

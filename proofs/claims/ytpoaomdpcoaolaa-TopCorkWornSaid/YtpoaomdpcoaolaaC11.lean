/- The bars around a knot, of the program, walked. Conditions: none. -/
import Derived.Test.YtpoaomdpcoaolaaC09
import Derived.Test.YtpoaomdpcoaolaaC06
import Derived.Test.YtpoaomdpcoaolaaC10
import Derived.Lib.SliceRun
namespace Go.Proofs.Ytpoaomdpcoaolaa
open Go.RowKit Go.ChangeMaps
set_option maxHeartbeats 4000000
set_option maxRecDepth 100000

@[go_sem] theorem idx4_0 (a b c d e f g h i j k l : Int) (w : World) : (Instr.index 98 (.agg #[.int .i64 a, .int .i64 b, .int .i64 c, .int .i64 d, .int .i64 e, .int .i64 f, .int .i64 g, .int .i64 h, .int .i64 i, .int .i64 j, .int .i64 k, .int .i64 l]) (.int .i64 0)).run Try.prog w = .ok (.agg #[.int .i64 a, .int .i64 b, .int .i64 c]) w := by kernel_rfl
@[go_sem] theorem idx4_1 (a b c d e f g h i j k l : Int) (w : World) : (Instr.index 98 (.agg #[.int .i64 a, .int .i64 b, .int .i64 c, .int .i64 d, .int .i64 e, .int .i64 f, .int .i64 g, .int .i64 h, .int .i64 i, .int .i64 j, .int .i64 k, .int .i64 l]) (.int .i64 1)).run Try.prog w = .ok (.agg #[.int .i64 d, .int .i64 e, .int .i64 f]) w := by kernel_rfl
@[go_sem] theorem idx4_2 (a b c d e f g h i j k l : Int) (w : World) : (Instr.index 98 (.agg #[.int .i64 a, .int .i64 b, .int .i64 c, .int .i64 d, .int .i64 e, .int .i64 f, .int .i64 g, .int .i64 h, .int .i64 i, .int .i64 j, .int .i64 k, .int .i64 l]) (.int .i64 2)).run Try.prog w = .ok (.agg #[.int .i64 g, .int .i64 h, .int .i64 i]) w := by kernel_rfl
@[go_sem] theorem idx4_3 (a b c d e f g h i j k l : Int) (w : World) : (Instr.index 98 (.agg #[.int .i64 a, .int .i64 b, .int .i64 c, .int .i64 d, .int .i64 e, .int .i64 f, .int .i64 g, .int .i64 h, .int .i64 i, .int .i64 j, .int .i64 k, .int .i64 l]) (.int .i64 3)).run Try.prog w = .ok (.agg #[.int .i64 j, .int .i64 k, .int .i64 l]) w := by kernel_rfl
theorem naround_any (x y : Int) (hx : -1000000 ≤ x ∧ x ≤ 1000000) (hy : -1000000 ≤ y ∧ y ≤ 1000000) (w : World) :
    Calls Try.prog 59 #[.agg #[.int .i64 x, .int .i64 y]] w (RV w (.agg #[.int .i64 (x - 1), .int .i64 (y - 1), .int .i64 1, .int .i64 (x + 1), .int .i64 (y - 1), .int .i64 (-1), .int .i64 x, .int .i64 y, .int .i64 (-1), .int .i64 x, .int .i64 y, .int .i64 1])) := by
  go_enter Try.func59, Try.ntmps59
  go_wp2
  refine bodyPost_ret (v := .agg #[.int .i64 (x - 1), .int .i64 (y - 1), .int .i64 1, .int .i64 (x + 1), .int .i64 (y - 1), .int .i64 (-1), .int .i64 x, .int .i64 y, .int .i64 (-1), .int .i64 x, .int .i64 y, .int .i64 1]) (by simp [results, Try.results59, go_sem]) rfl ?_
  exact ⟨rfl, by (repeat (first | exact bl_refl | assumption | (apply bl_then; assumption) | refine bl_alloc ?_ _ | refine bl_drew ?_ | refine bl_drewN ?_ _))⟩
/-- the four bars of a knot, in their order -/
def arB (k : Knot) : Nat → Bar
  | 0 => (k.1 - 1, k.2 - 1, 1)
  | 1 => (k.1 + 1, k.2 - 1, -1)
  | 2 => (k.1, k.2, -1)
  | _ => (k.1, k.2, 1)
def okB (b : Bar) : Bool := decide (barE b.1 b.2.1 b.2.2 = 0)
def arL (k : Knot) : Nat → List Bar
  | 0 => []
  | n + 1 => arL k n ++ if okB (arB k n) then [arB k n] else []
/-- the valid bars of a knot -/
def aroundL (k : Knot) : List Bar := if knotE k.1 k.2 = 0 then arL k 4 else []
theorem arL_len (k : Knot) : ∀ n, (arL k n).length ≤ n
  | 0 => Nat.le_refl _
  | n + 1 => by
    have := arL_len k n
    unfold arL
    rw [List.length_append]
    split <;> simp <;> omega
end Go.Proofs.Ytpoaomdpcoaolaa

/- Bars shifted, of the program, walked. Conditions: bars within bounds. -/
namespace Go.Proofs.Ytpoaomdpcoaolaa
open Go.RowKit Go.ChangeMaps
set_option maxHeartbeats 4000000
set_option maxRecDepth 100000

theorem bad_in (x y s : Int) : firstI [reachI x y, reachI (x + s) (y + 1)] = if inB (x, y, s) then 0 else 3 := by
  rw [reachI_far, reachI_far]
  unfold inB
  simp only
  cases farB x <;> cases farB y <;> cases farB (x + s) <;> cases farB (y + 1) <;> rfl
def shE (d : Knot) (l : List Bar) : Int := if allIn (l.map (shB d)) then 0 else 3
def shL (d : Knot) (l : List Bar) : List Bar := if allIn (l.map (shB d)) then l.map (shB d) else []
theorem allIn_not {l : List Bar} {f : Bar → Bar} {k : Nat} (hk : k < l.length) (h : inB (f l[k]) = false) : allIn (l.map f) = false := by
  unfold allIn
  rw [List.all_eq_false]
  exact ⟨f l[k], List.mem_map_of_mem (List.getElem_mem hk), by rw [h]; simp⟩
theorem nshifted_any {v : Value} (l : List Bar) (dx dy : Int) (w : World) (h : SlB w v l) (hk : ∀ b ∈ l, BarOk b) (hlen : l.length ≤ 10000) (hdx : -500000 ≤ dx ∧ dx ≤ 500000) (hdy : -500000 ≤ dy ∧ dy ≤ 500000) :
    Calls Try.prog 25 #[v, .agg #[.int .i64 dx, .int .i64 dy]] w (RBE w (shL (dx, dy) l) (shE (dx, dy) l)) := by
  obtain ⟨A, c, rfl, hlc, hcm, h⟩ := h
  have HK := Lib.hid hk
  have hB := Blk.new w 30 #[.int .i64 dx, .int .i64 dy]
  clear hk
  go_enter Try.func25, Try.ntmps25
  go_wp2
  go_loopw [6, 13] (fun o i wr => ∃ k : Nat, k ≤ l.length ∧ i = .int .i64 k ∧ Hid (allIn ((l.take k).map (shB (dx, dy))) = true) ∧ OwB w.heap.size wr o ((l.take k).map (shB (dx, dy))) ∧ Blk wr w.heap.size 30 #[.int .i64 dx, .int .i64 dy] ∧ Below w.heap.size w wr) (fun _ i _ => l.length - (intOf i).toNat)
  case atStart => exact ⟨0, Nat.zero_le _, rfl, rfl, Own.nil_, hB, by (repeat (first | exact bl_refl | assumption | (apply bl_then; assumption) | refine bl_alloc ?_ _ | refine bl_drew ?_ | refine bl_drewN ?_ _))⟩
  case round =>
    clear hB
    obtain ⟨k, hk, rfl, HQ, hO, hBr, hbw⟩ := hrel
    obtain ⟨wo, rfl⟩ : ∃ x, x = wr := ⟨_, rfl⟩
    by_cases hlt : k < l.length
    · have hr := h.below hbw
      obtain ⟨b, off, rfl, hb, e0, e1, e2⟩ := hr.bar hlt
      have hbo := HK.out _ (List.getElem_mem hlt)
      have HD := Lib.hid (map_take (shB (dx, dy)) hlt)
      have HA := Lib.hid (allIn_take (f := shB (dx, dy)) hlt)
      have HN := Lib.hid (@allIn_not l (shB (dx, dy)) k hlt)
      have fB := hBr.facts
      obtain ⟨⟨x, y, s⟩, hx⟩ : ∃ z, l[k] = z := ⟨_, rfl⟩
      rw [hx] at e0 e1 e2 hbo HD HA HN
      simp only at e0 e1 e2
      clear hx
      obtain ⟨q1, q2, q3⟩ := hbo
      simp only at q1 q2 q3
      have hll : ((l.take k).map (shB (dx, dy))).length ≤ 10000 := by simp; omega
      obtain ⟨x1, hx1⟩ : ∃ x1, x + dx = x1 := ⟨_, rfl⟩
      obtain ⟨y1, hy1⟩ : ∃ y1, y + dy = y1 := ⟨_, rfl⟩
      have m1 : IntKind.i64.wrap (x + dx) = x1 := by rw [IntWalk.i64_in _ (by omega)]; omega
      have m2 : IntKind.i64.wrap (y + dy) = y1 := by rw [IntWalk.i64_in _ (by omega)]; omega
      have r1 : -1000000 ≤ x1 ∧ x1 ≤ 1000000 := by omega
      have r2 : -1000000 ≤ y1 ∧ y1 ≤ 1000000 := by omega
      have HS : Hid (shB (dx, dy) (x, y, s) = (x1, y1, s)) := by unfold Hid shB; rw [← hx1, ← hy1]
      clear hx1 hy1
      rw [HS.out] at HD HA HN
      have hN0 := Blk.new wo 50 #[.int .i64 x, .int .i64 y, .int .i64 s]
      have hBa := hBr.alloc (.cells #[.int .i64 x, .int .i64 y, .int .i64 s] 50)
      have hOa := hO.alloc (.cells #[.int .i64 x, .int .i64 y, .int .i64 s] 50)
      go_upto_region 5 with fail
      obtain ⟨w1, hw1⟩ : ∃ X, wo.alloc (.cells #[.int .i64 x, .int .i64 y, .int .i64 s] 50) = X := ⟨_, rfl⟩
      have hb1 : Below wo.heap.size wo w1 := by rw [← hw1]; exact bl_alloc bl_refl _
      rw [hw1] at hN0 hBa hOa ⊢
      have fN := hN0.facts
      have fBa := hBa.facts
      clear hw1 e0 e1 e2 hr fB hOa
      go_region
      go_upto_region 6 with fail
      obtain ⟨w2, hw2⟩ : ∃ X, ((w1.setCell ⟨wo.heap.size, 0, none⟩ (.int .i64 x1)).setCell ⟨wo.heap.size, 1, none⟩ (.int .i64 y1)).drew = X := ⟨_, rfl⟩
      have hN2 : Blk w2 wo.heap.size 50 #[.int .i64 x1, .int .i64 y1, .int .i64 s] := by
        rw [← hw2]
        exact ((hN0.set_ 0 (.int .i64 x1)).set_ 1 (.int .i64 y1)).drew
      have hb2 : Below wo.heap.size wo w2 := by
        rw [← hw2]
        exact bl_drew (bl_set (bl_set hb1 (Nat.le_refl _) _) (Nat.le_refl _) _)
      have hB2 := hBr.below hb2
      have hO2 := hO.below hb2
      have hbw2 := bl_then hb2 hbw
      have fN2 := hN2.facts
      rw [hw2]
      clear hw2 fN fBa hN0 hBa hb1
      go_wp2_with fail
      refine (nends_any x1 y1 s (by omega) (by omega) (by omega) _).mono ?_
      rintro e w3 ⟨rfl, hb3⟩
      have hN3 := (hN2.below hb3).alloc (.cells #[.int .i64 x1, .int .i64 y1, .int .i64 (x1 + s), .int .i64 (y1 + 1)] 81)
      have hB3 := (hB2.below hb3).alloc (.cells #[.int .i64 x1, .int .i64 y1, .int .i64 (x1 + s), .int .i64 (y1 + 1)] 81)
      have hO3 := (hO2.below hb3).alloc (.cells #[.int .i64 x1, .int .i64 y1, .int .i64 (x1 + s), .int .i64 (y1 + 1)] 81)
      have hE3 := Blk.new w3 81 #[.int .i64 x1, .int .i64 y1, .int .i64 (x1 + s), .int .i64 (y1 + 1)]
      have hbw3 : Below w.heap.size w (w3.alloc (.cells #[.int .i64 x1, .int .i64 y1, .int .i64 (x1 + s), .int .i64 (y1 + 1)] 81)) := by (repeat (first | exact bl_refl | assumption | (apply bl_then; assumption) | refine bl_alloc ?_ _ | refine bl_drew ?_ | refine bl_drewN ?_ _))
      clear fN2 hN2 hB2 hO2 hO hBr
      go_upto_region 7 with fail
      obtain ⟨w4, hw4⟩ : ∃ X, w3.alloc (.cells #[.int .i64 x1, .int .i64 y1, .int .i64 (x1 + s), .int .i64 (y1 + 1)] 81) = X := ⟨_, rfl⟩
      rw [hw4] at hN3 hB3 hO3 hE3 hbw3 ⊢
      have fE3 := hE3.facts
      clear hw4
      have hF : ∀ A c W, Rd ic 1 W A [reachI x1 y1, reachI (x1 + s) (y1 + 1)] → Calls Try.prog 22 #[.slice A 2 c] W (RV W (.int .i64 (if inB (x1, y1, s) then 0 else 3))) := fun A c W hr => by
        rw [← bad_in]
        exact nfirst_any [reachI x1 y1, reachI (x1 + s) (y1 + 1)] A c W (by simp [maxLen]) hr
      refine wp_region_ords [0, 1, 3, 4] [(2, false)] [5, 6, 7, 8] (by kernel_rfl) (by kernel_rfl) (fun d _ _ _ _ h => by cases d <;> exact h) ?_
      simp only [List.map_cons, List.map_nil, List.getD_cons_zero, List.getD_cons_succ]
      repeat (go_big_quiet_step (fail))
      refine wpQuiet_nil ?_
      refine wpMid_run rfl (fun K hK => ?_)
      go_simp
      refine (nreach_any x1 y1 _).mono ?_
      rintro e w5 ⟨rfl, hb5⟩
      refine hK _ _ (by (repeat (first | exact bl_refl | assumption | (apply bl_then; assumption) | refine bl_alloc ?_ _ | refine bl_drew ?_ | refine bl_drewN ?_ _))) ?_
      clear hK K
      have hE3_w5 := hE3.below (show Below _ _ w5 by (repeat (first | exact bl_refl | assumption | (apply bl_then; assumption) | refine bl_alloc ?_ _ | refine bl_drew ?_ | refine bl_drewN ?_ _)))
      have fhE3_w5 := hE3_w5.facts
      refine wpMid_nil ?_
      go_wp2_with fail
      refine (nreach_any (x1 + s) (y1 + 1) _).mono ?_
      rintro e w6 ⟨rfl, hb6⟩
      go_wp2_with fail
      go_must (refine (hF _ _ _ (Rd.ints2 (by simp) (by go_simp) (by go_simp))).mono ?_)
      rintro e w7 ⟨rfl, hb7⟩
      have hb47 : Below w4.heap.size w4 w7 := by (repeat (first | exact bl_refl | assumption | (apply bl_then; assumption) | refine bl_alloc ?_ _ | refine bl_drew ?_ | refine bl_drewN ?_ _))
      have hN7 := hN3.below hb47
      have hB7 := hB3.below hb47
      have hO7 := hO3.below hb47
      have hbw7 := bl_then hb47 hbw3
      have fN7 := hN7.facts
      clear hF fE3
      obtain ⟨q, hq⟩ : ∃ q, inB (x1, y1, s) = q := ⟨_, rfl⟩
      rw [hq] at HA HN ⊢
      clear hq
      cases q
      · have HL : Hid (shL (dx, dy) l = [] ∧ shE (dx, dy) l = 3) := by
          unfold Hid shL shE
          rw [HN.out rfl]
          exact ⟨rfl, rfl⟩
        simp only [Bool.false_eq_true, if_false]
        go_wp2
        go_ret2
        exact ⟨_, by rw [HL.out.2]; rfl, by rw [HL.out.1]; exact Own.nil_, hbw7⟩
      · simp only [if_true]
        go_wp2_with (at_builtin; refine wpList_appB1 hO7 rfl _ _ rfl rfl rfl (by simp) (by omega) hbw7.size ?_; intro v8 w8 hown8 hgr8)
        have hb8 := own_step hO7 hgr8 (by (repeat (first | exact bl_refl | assumption | (apply bl_then; assumption) | refine bl_alloc ?_ _ | refine bl_drew ?_ | refine bl_drewN ?_ _)))
        have hB8 := (hB7.alloc (.cells #[.int .i64 x1, .int .i64 y1, .int .i64 s] 50)).grown hgr8 (hO7.ne_blk hB7 (by decide))
        clear hgr8
        go_wp2
        go_roundw
        case rel => exact ⟨k + 1, by omega, by go_num, by unfold Hid; rw [HA.out, HQ.out]; rfl, by rw [HD.out]; exact hown8, hB8, hb8⟩
        case measure => simp [intOf]; omega
    · have HE : Hid (l.map (shB (dx, dy)) = (l.take k).map (shB (dx, dy))) := by unfold Hid; rw [List.take_of_length_le (by omega)]
      have HL : Hid (shL (dx, dy) l = (l.take k).map (shB (dx, dy)) ∧ shE (dx, dy) l = 0) := by
        unfold Hid shL shE
        rw [HE.out, if_pos HQ.out, if_pos HQ.out]
        exact ⟨rfl, rfl⟩
      go_wp2
      go_ret2
      exact ⟨_, by rw [HL.out.2]; rfl, by rw [HL.out.1]; exact hO, hbw⟩
end Go.Proofs.Ytpoaomdpcoaolaa

/- Mirror, Turn and Shift of the program, walked. Conditions: the slices read as lists. -/
namespace Go.Proofs.Ytpoaomdpcoaolaa
open Go.RowKit Go.ChangeMaps
set_option maxHeartbeats 4000000
set_option maxRecDepth 100000

/-- both ends of a bar are within their range, and its side is one of both -/
structure EndsIn (b : Bar) : Prop where
  x : -100000 ≤ b.1 ∧ b.1 ≤ 100000
  y : -100000 ≤ b.2.1 ∧ b.2.1 ≤ 100000
  x2 : -100000 ≤ b.1 + b.2.2 ∧ b.1 + b.2.2 ≤ 100000
  y2 : -100000 ≤ b.2.1 + 1 ∧ b.2.1 + 1 ≤ 100000
  s : b.2.2 = 1 ∨ b.2.2 = -1
theorem EndsIn.ok {b : Bar} (h : EndsIn b) : BarOk b := ⟨by have := h.x; omega, by have := h.y; omega, h.s⟩
theorem EndsIn.turn {b : Bar} (h : EndsIn b) : EndsIn (turnB b) := by
  obtain ⟨x, y, s⟩ := b
  obtain ⟨h1, h2, h3, h4, h5⟩ := h
  simp only at h1 h2 h3 h4 h5
  rcases h5 with rfl | rfl
  · have e : turnB (x, y, 1) = (-y, x, -1) := by
      unfold turnB btwB
      simp only
      rw [if_neg (by omega)]
      simp only [Prod.mk.injEq, true_and]
      omega
    rw [e]
    exact ⟨by simp only; omega, by simp only; omega, by simp only; omega, by simp only; omega, .inr rfl⟩
  · have e : turnB (x, y, -1) = (-(y + 1), x - 1, 1) := by
      unfold turnB btwB
      simp only
      rw [if_pos (by omega)]
      have e1 : x + -1 = x - 1 := by omega
      have e2 : -y - -(y + 1) = 1 := by omega
      rw [e1, e2]
    rw [e]
    exact ⟨by simp only; omega, by simp only; omega, by simp only; omega, by simp only; omega, .inl rfl⟩
theorem EndsIn.mir {b : Bar} (h : EndsIn b) : EndsIn (mirB b) := by
  obtain ⟨x, y, s⟩ := b
  obtain ⟨h1, h2, h3, h4, h5⟩ := h
  unfold mirB
  simp only at h1 h2 h3 h4 h5 ⊢
  constructor <;> simp only <;> omega
theorem barE_ends {x y s : Int} (h : barE x y s = 0) : EndsIn (x, y, s) := by
  unfold barE at h
  split at h
  · rename_i h1
    exact absurd h (by simpa using h1)
  · rename_i h1
    obtain ⟨a1, a2, a3, a4, _⟩ := knotE_zero (by simpa using h1)
    split at h
    · cases h
    · rename_i h2
      obtain ⟨b1, b2, b3, b4, _⟩ := knotE_zero h
      exact ⟨⟨a1, a2⟩, ⟨a3, a4⟩, ⟨b1, b2⟩, ⟨b3, b4⟩, by simp only; omega⟩
theorem netGo_ends : ∀ (l : List Bar) (p : Option Bar), netGo p l = 0 → ∀ b ∈ l, EndsIn b
  | [], _, _ => by simp
  | b :: r, p, h => by
    unfold netGo at h
    split at h
    · rename_i h1
      exact absurd h h1
    · rename_i h1
      split at h
      · cases h
      · intro c hc
        rcases List.mem_cons.1 hc with rfl | hc
        · exact barE_ends (by simpa using h1)
        · exact netGo_ends r (some b) h c hc
theorem netE_ends {l : List Bar} (h : netE l = 0) : ∀ b ∈ l, EndsIn b := by
  unfold netE at h
  split at h
  · cases h
  · exact netGo_ends l none h
def mirK (k : Knot) : Knot := (-k.1, k.2)
def turnK (k : Knot) : Knot := (-k.2, k.1)
theorem mvB_mir {b : Bar} : mvB mirK b = mirB b := by
  obtain ⟨x, y, s⟩ := b
  unfold mvB mirK mirB btwB lowK uppK
  simp only
  rw [if_neg (by omega)]
  simp only [Prod.mk.injEq, true_and]
  omega
theorem mvB_turn (b : Bar) : mvB turnK b = turnB b := rfl
def mirN (l : List Bar) : List Bar := srtB (l.map (mvB mirK))
def turnN : Nat → List Bar → List Bar
  | 0, l => l
  | n + 1, l => srtB ((turnN n l).map (mvB turnK))
theorem turnN_ends {l : List Bar} (h : ∀ b ∈ l, EndsIn b) : ∀ n, ∀ b ∈ turnN n l, EndsIn b
  | 0 => h
  | n + 1 => fun b hb => by
    unfold turnN at hb
    rw [srtB_mem, List.mem_map] at hb
    obtain ⟨c, hc, rfl⟩ := hb
    exact (turnN_ends h n c hc).turn
theorem turnN_len (l : List Bar) : ∀ n, (turnN n l).length = l.length
  | 0 => rfl
  | n + 1 => by
    unfold turnN
    rw [srtB_length, List.length_map, turnN_len l n]
theorem mir_near (k : Knot) (h : nearK k) : nearK (mirK k) := by unfold nearK mirK at *; simp only; omega
theorem turn_near (k : Knot) (h : nearK k) : nearK (turnK k) := by unfold nearK turnK at *; simp only; omega
/-- by how many quarters -/
def qN (q : Int) : Nat := ((q.tmod 4 + 4).tmod 4).toNat
theorem qN_eq (q : Int) : (wrap64 (q.tmod 4 + 4)).tmod 4 = (qN q : Int) := by
  have h1 := Int.tmod_lt_of_pos q (b := 4) (by decide)
  have h2 : -4 < q.tmod 4 := by rw [Int.tmod_eq_emod]; split <;> omega
  have h3 : wrap64 (q.tmod 4 + 4) = q.tmod 4 + 4 := IntWalk.wrap64_in _ (by omega)
  rw [h3]
  unfold qN
  have : 0 ≤ (q.tmod 4 + 4).tmod 4 := Int.tmod_nonneg _ (by omega)
  omega
end Go.Proofs.Ytpoaomdpcoaolaa

/- Shift, and two nets compared, of the program, walked. Conditions: the slices read as lists. -/
namespace Go.Proofs.Ytpoaomdpcoaolaa
open Go.RowKit Go.ChangeMaps
set_option maxHeartbeats 4000000
set_option maxRecDepth 100000

def shiftE (l : List Bar) (x y : Int) : Int := if degE l x y = 0 then shE (x, y) l else degE l x y
def shiftL (l : List Bar) (x y : Int) : List Bar := if degE l x y = 0 then shL (x, y) l else []
theorem apiShift_any {v : Value} (l : List Bar) (x y : Int) (w : World) (h : SlB w v l) : Calls Try.prog 7 #[v, .agg #[.int .i64 x, .int .i64 y]] w (RBE w (shiftL l x y) (shiftE l x y)) := by
  have hB := Blk.new w 30 #[.int .i64 x, .int .i64 y]
  have h0 := h.alloc (.cells #[.int .i64 x, .int .i64 y] 30)
  have fB := hB.facts
  by_cases hE : degE l x y = 0
  · obtain ⟨hz, hk⟩ := firstI_zero hE
    obtain ⟨z1, z2, z3, z4, _⟩ := knotE_zero hk
    have hok := netE_ok hz
    have HZ := Lib.hid hz
    have HS : Hid (shiftL l x y = shL (x, y) l ∧ shiftE l x y = shE (x, y) l) := by unfold Hid shiftL shiftE; rw [if_pos hE, if_pos hE]; exact ⟨rfl, rfl⟩
    have hF : ∀ A c W, Rd ic 1 W A [netE l, knotE x y] → Calls Try.prog 22 #[.slice A 2 c] W (RV W (.int .i64 0)) := fun A c W hr => by
      have := nfirst_any [netE l, knotE x y] A c W (by simp [maxLen]) hr
      rwa [show firstI [netE l, knotE x y] = 0 from hE] at this
    clear hE hz hk
    go_enter Try.func7, Try.ntmps7
    go_wp2
    refine wp_region_ords [0, 2] [(1, false)] [3, 4, 5, 6] (by kernel_rfl) (by kernel_rfl) (fun d _ _ _ _ h => by cases d <;> exact h) ?_
    simp only [List.map_cons, List.map_nil, List.getD_cons_zero, List.getD_cons_succ]
    repeat (go_big_quiet_step (fail))
    refine wpQuiet_nil ?_
    refine wpMid_run rfl (fun K hK => ?_)
    go_simp
    refine (nnet_sl l _ (h0.below (by (repeat (first | exact bl_refl | assumption | (apply bl_then; assumption) | refine bl_alloc ?_ _ | refine bl_drew ?_ | refine bl_drewN ?_ _))))).mono ?_
    rintro e w1 ⟨rfl, hb1⟩
    refine hK _ _ (by (repeat (first | exact bl_refl | assumption | (apply bl_then; assumption) | refine bl_alloc ?_ _ | refine bl_drew ?_ | refine bl_drewN ?_ _))) ?_
    clear hK K
    have hB_w1 := hB.below (show Below _ _ w1 by (repeat (first | exact bl_refl | assumption | (apply bl_then; assumption) | refine bl_alloc ?_ _ | refine bl_drew ?_ | refine bl_drewN ?_ _)))
    have fhB_w1 := hB_w1.facts
    refine wpMid_nil ?_
    have h1 := h0.below (show Below _ _ w1 by (repeat (first | exact bl_refl | assumption | (apply bl_then; assumption) | refine bl_alloc ?_ _ | refine bl_drew ?_ | refine bl_drewN ?_ _)))
    go_wp2_with (first | (go_at_call 24; refine (nknot_any x y _).mono ?_; rintro e w2 ⟨rfl, hb2⟩; have hB2 := hB_w1.below hb2; have fB2 := hB2.facts) | (go_at_call 22; go_must (refine (hF _ _ _ (Rd.ints2 (by simp) (by go_simp) (by go_simp))).mono ?_); rintro e w3 ⟨rfl, hb3⟩; have hB3 := ((hB2.alloc (.cells #[.int .i64 (netE l), .int .i64 (knotE x y)] 25)).below hb3); have fB3 := hB3.facts))
    have h3 := (h1.below hb2).below (show Below _ _ w3 by (repeat (first | exact bl_refl | assumption | (apply bl_then; assumption) | refine bl_alloc ?_ _ | refine bl_drew ?_ | refine bl_drewN ?_ _)))
    refine (nshifted_any l x y _ h3 hok.ok hok.len1 (by omega) (by omega)).mono ?_
    rintro e w4 ⟨v4, rfl, hO4, hb4⟩
    have hbw3 : Below w.heap.size w w3 := by (repeat (first | exact bl_refl | assumption | (apply bl_then; assumption) | refine bl_alloc ?_ _ | refine bl_drew ?_ | refine bl_drewN ?_ _))
    go_wp2
    go_ret2
    exact ⟨_, by rw [HS.out.2]; rfl, by rw [HS.out.1]; exact hO4.base_mono hbw3.size, by (repeat (first | exact bl_refl | assumption | (apply bl_then; assumption) | refine bl_alloc ?_ _ | refine bl_drew ?_ | refine bl_drewN ?_ _))⟩
  · have HS : Hid (shiftL l x y = [] ∧ shiftE l x y = degE l x y) := by unfold Hid shiftL shiftE; rw [if_neg hE, if_neg hE]; exact ⟨rfl, rfl⟩
    have hE' : (degE l x y != 0) = true := by simpa using hE
    have hF : ∀ A c W, Rd ic 1 W A [netE l, knotE x y] → Calls Try.prog 22 #[.slice A 2 c] W (RV W (.int .i64 (degE l x y))) := fun A c W hr => nfirst_any [netE l, knotE x y] A c W (by simp [maxLen]) hr
    clear hE
    go_enter Try.func7, Try.ntmps7
    go_wp2
    refine wp_region_ords [0, 2] [(1, false)] [3, 4, 5, 6] (by kernel_rfl) (by kernel_rfl) (fun d _ _ _ _ h => by cases d <;> exact h) ?_
    simp only [List.map_cons, List.map_nil, List.getD_cons_zero, List.getD_cons_succ]
    repeat (go_big_quiet_step (fail))
    refine wpQuiet_nil ?_
    refine wpMid_run rfl (fun K hK => ?_)
    go_simp
    refine (nnet_sl l _ (h0.below (by (repeat (first | exact bl_refl | assumption | (apply bl_then; assumption) | refine bl_alloc ?_ _ | refine bl_drew ?_ | refine bl_drewN ?_ _))))).mono ?_
    rintro e w1 ⟨rfl, hb1⟩
    refine hK _ _ (by (repeat (first | exact bl_refl | assumption | (apply bl_then; assumption) | refine bl_alloc ?_ _ | refine bl_drew ?_ | refine bl_drewN ?_ _))) ?_
    clear hK K
    have hB_w1 := hB.below (show Below _ _ w1 by (repeat (first | exact bl_refl | assumption | (apply bl_then; assumption) | refine bl_alloc ?_ _ | refine bl_drew ?_ | refine bl_drewN ?_ _)))
    have fhB_w1 := hB_w1.facts
    refine wpMid_nil ?_
    go_wp2_with (first | (go_at_call 24; refine (nknot_any x y _).mono ?_; rintro e w2 ⟨rfl, hb2⟩) | (go_at_call 22; go_must (refine (hF _ _ _ (Rd.ints2 (by simp) (by go_simp) (by go_simp))).mono ?_); rintro e w3 ⟨rfl, hb3⟩))
    go_ret2
    exact ⟨_, by rw [HS.out.2]; rfl, by rw [HS.out.1]; exact Own.nil_, by (repeat (first | exact bl_refl | assumption | (apply bl_then; assumption) | refine bl_alloc ?_ _ | refine bl_drew ?_ | refine bl_drewN ?_ _))⟩
/-- two lists of bars, by their first difference, then by their length -/
def cmpL : List Bar → List Bar → Int
  | [], [] => 0
  | [], _ :: _ => -1
  | _ :: _, [] => 1
  | a :: l, b :: r => if barCmp a.1 a.2.1 a.2.2 b.1 b.2.1 b.2.2 ≠ 0 then barCmp a.1 a.2.1 a.2.2 b.1 b.2.1 b.2.2 else cmpL l r
theorem cmpL_drop {l r : List Bar} {k : Nat} (hl : k < l.length) (hr : k < r.length) : cmpL (l.drop k) (r.drop k) = if barCmp l[k].1 l[k].2.1 l[k].2.2 r[k].1 r[k].2.1 r[k].2.2 ≠ 0 then barCmp l[k].1 l[k].2.1 l[k].2.2 r[k].1 r[k].2.1 r[k].2.2 else cmpL (l.drop (k + 1)) (r.drop (k + 1)) := by
  rw [List.drop_eq_getElem_cons hl, List.drop_eq_getElem_cons hr, cmpL]
theorem cmpL_long {l r : List Bar} {k : Nat} (hl : k < l.length) (hr : r.length ≤ k) : cmpL (l.drop k) (r.drop k) = 1 := by
  rw [List.drop_eq_getElem_cons hl, List.drop_eq_nil_of_le hr, cmpL]
theorem cmpL_end {l r : List Bar} {k : Nat} (hl : l.length = k) (hk : k ≤ r.length) : cmpL (l.drop k) (r.drop k) = if l.length < r.length then -1 else 0 := by
  rw [List.drop_eq_nil_of_le (by omega)]
  by_cases h : k < r.length
  · rw [List.drop_eq_getElem_cons h, if_pos (by omega), cmpL]
  · rw [List.drop_eq_nil_of_le (by omega), if_neg (by omega), cmpL]
end Go.Proofs.Ytpoaomdpcoaolaa

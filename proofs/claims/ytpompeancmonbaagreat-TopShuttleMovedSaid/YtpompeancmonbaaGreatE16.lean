/- The run of a hole, and whether it is ready, walked. Conditions: the hole's bars are within bounds, each once. -/
import Derived.Test.YtpompeancmonbaaGreatE15
namespace Go.Proofs.YtpompeancmonbaaGreat
open Go.RowKit Go.ChangeMaps
set_option maxHeartbeats 4000000
set_option maxRecDepth 100000
attribute [local go_sem] Oper.semAt_some

def encB (x : Nat × Knot) : Array Value := #[.int .i64 (x.1 : Int), kk x.2]
def twoB (p q : Knot) : List (Nat × Knot) := [(1, q), (0, p)]
theorem back_any (A : Option Addr) (n c : Nat) (w : World) : Calls Tryz.prog 90 #[.slice A n c] w
    fun e w' => e = .returned (.func (.func 126) #[] #[.pointer (some ⟨w.heap.size, 0, none⟩)]) ∧ w' = w.alloc (.cells #[.slice A n c] 41) := by
  go_enter Tryz.func90, Tryz.ntmps90
  go_wp2
  go_ret
  exact ⟨rfl, rfl⟩
theorem back_stops (n : Nat) (hn : 1 ≤ n) (S : List Nat) (bs base : Nat) (p q : Knot) (A : Option Addr) (c : Nat) (w : World) (h1 : bs ∉ S) (hS : ∀ k ∈ S, k < base) (hB : Blk w bs 41 #[.slice A 2 c]) (hv : OwK base w (.slice A 2 c) [p, q]) :
    SeqStopsK Fence.wide n Tryz.prog 126 #[.pointer (some ⟨bs, 0, none⟩)] encB (KeepB S w.heap.size) (fun ys => ys = twoB p q) (fun pre => pre <+: twoB p q) 2 w := fun l J Jx W hW hJ _ hY h0 => by
  have hcW : Chg S w W := Chg.of_below hW
  have fB := (hB.below hW).facts
  refine callsIn_of_wp Tryz.func126 rfl trivial ?_ rfl
  simp only [Tryz.ntmps126, List.size_toArray, List.length_cons, List.length_nil, Nat.reduceAdd, Nat.reduceSub, Array.replicate_succ, Array.replicate_zero, List.push_toArray, List.append_toArray, List.nil_append, List.cons_append]
  gi_wp2
  gi_loopw [3] (fun i wr => ∃ k : Nat, k ≤ 2 ∧ i = .int .i64 (1 - (k : Int)) ∧ J ((twoB p q).take k) wr ∧ Chg S w wr) (fun i _ => (intOf i + 1).toNat)
  case atStart => exact ⟨0, Nat.zero_le _, rfl, h0, hcW⟩
  case round =>
    clear fB
    obtain ⟨k, hk, rfl, hJs, hc⟩ := hrel
    have hv2 := (hv.chg hc hS).rd kc_len
    obtain ⟨A', c', e', _, _, hr⟩ := hv2
    obtain ⟨rfl, rfl⟩ : A = A' ∧ c = c' := by simpa using e'
    clear e'
    have fB := (hB.chg hc h1).facts
    obtain rfl | rfl | rfl : k = 0 ∨ k = 1 ∨ k = 2 := by omega
    · obtain ⟨b, off, rfl, hb, e0, e1⟩ := hr.knot (k := 1) (by simp)
      obtain ⟨fn, tmps, assign, body, hy, hR⟩ := hY [] (1, q) wr hJs (by simp)
      unfold encB kk at hy
      simp at hy e0 e1
      gi_wp2
      refine hR.mono ?_
      rintro e W3 (⟨rfl, hJ3, hk3⟩ | ⟨rfl, hJx3⟩)
      · gi_wp2
        go_roundw
        case rel => exact ⟨1, by omega, by simp, hJ3, hc.keep hk3⟩
        case measure => simp [intOf]
      · gi_wp2
        refine bodyPost_ret (results_none rfl _ _ _) rfl ?_
        exact ⟨⟨_, rfl⟩, .inr ⟨_, ⟨[(0, p)], rfl⟩, hJx3⟩⟩
    · obtain ⟨b, off, rfl, hb, e0, e1⟩ := hr.knot (k := 0) (by simp)
      obtain ⟨fn, tmps, assign, body, hy, hR⟩ := hY [(1, q)] (0, p) wr hJs (by simp)
      unfold encB kk at hy
      simp at hy e0 e1
      gi_wp2
      refine hR.mono ?_
      rintro e W3 (⟨rfl, hJ3, hk3⟩ | ⟨rfl, hJx3⟩)
      · gi_wp2
        go_roundw
        case rel => exact ⟨2, by omega, by simp, hJ3, hc.keep hk3⟩
        case measure => simp [intOf]
      · gi_wp2
        refine bodyPost_ret (results_none rfl _ _ _) rfl ?_
        exact ⟨⟨_, rfl⟩, .inr ⟨_, ⟨[], rfl⟩, hJx3⟩⟩
    · gi_wp2
      go_end0
      exact ⟨⟨_, rfl⟩, .inl ⟨_, rfl, hJs⟩⟩

def tryAll (D : List Bar) (l : List (Nat × Knot)) : Option (List Knot) := l.findSome? fun x => tryRun D x.2
theorem tryAll_snoc (D : List Bar) (pre : List (Nat × Knot)) (x : Nat × Knot) (h : tryAll D pre = none) : tryAll D (pre ++ [x]) = tryRun D x.2 := by
  unfold tryAll at h ⊢
  rw [List.findSome?_append, h]
  simp
theorem tryAll_prefix {D : List Bar} {pre l : List (Nat × Knot)} {w : List Knot} (hp : pre <+: l) (h : tryAll D pre = some w) : tryAll D l = some w := by
  obtain ⟨r, rfl⟩ := hp
  unfold tryAll at h ⊢
  rw [List.findSome?_append, h]
  rfl
theorem runO_two {D : List Bar} {p q : Knot} (h : oddK D = [p, q]) : runO D = tryAll D (twoB p q) := by
  unfold runO tryAll twoB
  rw [h]
  simp only [List.findSome?_cons, List.findSome?_nil]
  cases tryRun D q with
  | some w => rfl
  | none => cases tryRun D p <;> rfl
theorem runO_len {D : List Bar} (h : (oddK D).length ≠ 2) : runO D = none := by
  unfold runO
  split
  · rename_i a b e
    rw [e] at h
    exact absurd rfl h
  · rfl
theorem knot_near {D : List Bar} (hk : ∀ b ∈ D, BarOk b) {k : Knot} (h : legsAt D k ≠ noLegs) : -200002 ≤ k.1 ∧ k.1 ≤ 200002 ∧ -200002 ≤ k.2 ∧ k.2 ≤ 200002 := by
  obtain ⟨a, ha, hm⟩ := legs_arm.1 h
  exact arm_near ha (hk _ hm)

theorem run_any (h rb rk : Nat) (D : List Bar) (w : World) (H : HoleAt w h rb rk D) (hk : ∀ b ∈ D, BarOk b) (hlen : D.length ≤ 100000) :
    Calls Tryz.prog 48 #[.pointer (some ⟨h, 0, none⟩)] w
      fun e w' => ∃ v, e = .returned (.tuple #[v, .bool (runO D).isSome]) ∧ OwK w.heap.size w' v ((runO D).getD []) ∧ Below w.heap.size w w' := by
  have hs : ∀ b ∈ D, Sided b := fun b hb => (hk b hb).2.2
  have hb3 : Below w.heap.size w (((w.alloc (.cells #[.pointer (some ⟨h, 0, none⟩)] 93)).alloc (.cells #[.slice none 0 0] 41)).alloc (.cells #[.bool false] 4)) := by (repeat (first | exact bl_refl | assumption | (apply bl_then; assumption) | refine bl_alloc ?_ _ | refine bl_drew ?_ | refine bl_drewN ?_ _))
  have hB0 := ((Blk.new w 93 #[.pointer (some ⟨h, 0, none⟩)]).alloc (.cells #[.slice none 0 0] 41)).alloc (.cells #[.bool false] 4)
  have hR2 := (Blk.new1 w (.cells #[.pointer (some ⟨h, 0, none⟩)] 93) 41 #[.slice none 0 0]).alloc (.cells #[.bool false] 4)
  have hR3 := Blk.new2 w (.cells #[.pointer (some ⟨h, 0, none⟩)] 93) (.cells #[.slice none 0 0] 41) 4 #[.bool false]
  have H3 := H.below hb3
  have hsz0 : (((w.alloc (.cells #[.pointer (some ⟨h, 0, none⟩)] 93)).alloc (.cells #[.slice none 0 0] 41)).alloc (.cells #[.bool false] 4)).heap.size = w.heap.size + 3 := by simp
  obtain ⟨w0, hw0⟩ : ∃ w0, (((w.alloc (.cells #[.pointer (some ⟨h, 0, none⟩)] 93)).alloc (.cells #[.slice none 0 0] 41)).alloc (.cells #[.bool false] 4)) = w0 := ⟨_, rfl⟩
  rw [hw0] at hb3 hB0 hR2 hR3 H3 hsz0
  by_cases h2 : (oddK D).length = 2
  · obtain ⟨p, q, hpq⟩ : ∃ p q, oddK D = [p, q] := by
      match hh : oddK D, h2 with
      | [p, q], _ => exact ⟨p, q, rfl⟩
    have hrun := Lib.hid (runO_two hpq)
    have hodd : Calls Tryz.prog 89 #[.pointer (some ⟨h, 0, none⟩)] w0 (RK w0 [p, q]) := by
      rw [← hpq]; exact hodd_any h rb rk D w0 H3 hs hlen
    have hmem : Hid (∀ x ∈ [p, q], legsAt D x ≠ noLegs) := fun x hx => by
      rw [← hpq] at hx
      exact (holeK_mem hs x).1 (List.mem_filter.1 hx).1
    clear hpq h2
    refine (callsIn_wide (n := 6)).1 ?_
    refine callsIn_of_wp_marks Tryz.func48 rfl trivial ?_ rfl
    simp only [Tryz.ntmps48, List.size_toArray, List.length_cons, List.length_nil, Nat.reduceAdd, Nat.reduceSub, Array.replicate_succ, Array.replicate_zero, List.push_toArray, List.append_toArray, List.nil_append, List.cons_append]
    have fB0 := hB0.facts
    gi_wp2_with (first | (refine ⟨trivial, ?_⟩; gi_at_call 89; refine (callsIn_wide.2 hodd).mono ?_; rintro e w1 ⟨v, rfl, hv1, hb1⟩; obtain ⟨A1, c1, rfl⟩ := hv1.shape) | (refine ⟨trivial, ?_⟩; gi_at_call 90; refine (callsIn_wide.2 (back_any _ _ _ _)).mono ?_; rintro e w2 ⟨rfl, hw2⟩; subst hw2))
    have hbA : Below w1.heap.size w1 (w1.alloc (.cells #[.slice A1 2 c1] 41)) := by (repeat (first | exact bl_refl | assumption | (apply bl_then; assumption) | refine bl_alloc ?_ _ | refine bl_drew ?_ | refine bl_drewN ?_ _))
    have hbs := Blk.new w1 41 #[.slice A1 2 c1]
    have hvA := hv1.below hbA
    have h01 := hb1.size
    have hHA := (H3.below hb1).below hbA
    have hbwA : Below w.heap.size w (w1.alloc (.cells #[.slice A1 2 c1] 41)) := bl_then hbA (bl_then hb1 hb3)
    have hB0A := (hB0.below hb1).below hbA
    have hR2A := (hR2.below hb1).below hbA
    have hR3A := (hR3.below hb1).below hbA
    have hszA : w1.heap.size + 1 = (w1.alloc (.cells #[.slice A1 2 c1] 41)).heap.size := by simp
    obtain ⟨w2, hw2⟩ : ∃ w2, w1.alloc (.cells #[.slice A1 2 c1] 41) = w2 := ⟨_, rfl⟩
    rw [hw2] at hbA hbs hvA hHA hbwA hB0A hR2A hR3A hszA ⊢
    clear hw0 hw2 fB0 hB0 hR2 hR3
    refine wpIn_rangeFunc_ownH rfl (by omega) (gf := 126) (lb := #[.pointer (some ⟨w1.heap.size, 0, none⟩)]) rfl trivial (enters_of Tryz.func126 (by kernel_rfl) rfl)
      (back_stops 5 (by omega) [] w1.heap.size w0.heap.size p q A1 c1 w2 (by simp) (by simp) hbs hvA) keepB_t (keepB_b (Nat.le_refl _)) (Below.refl _ _) (fun _ => rfl)
      (fun pre W => (Blk W w.heap.size 93 #[.pointer (some ⟨h, 0, none⟩)] ∧ Blk W (w.heap.size + 1) 41 #[.slice none 0 0] ∧ Blk W (w.heap.size + 1 + 1) 4 #[.bool false]) ∧ tryAll D pre = none ∧ Below w.heap.size w W ∧ w2.heap.size ≤ W.heap.size)
      (fun c pre W => c = .ret ∧ ∃ lst A c, tryAll D pre = some lst ∧ Blk W (w.heap.size + 1) 41 #[.slice A lst.length c] ∧ Blk W (w.heap.size + 1 + 1) 4 #[.bool true] ∧ OwK w.heap.size W (.slice A lst.length c) lst ∧ Below w.heap.size w W)
      (fun _ W W' row hs hg hr => by
        obtain ⟨⟨a1, a2, a3⟩, a4, a5, a6⟩ := hs
        exact ⟨⟨a1.grown hg (nc_blk a1 hr), a2.grown hg (nc_blk a2 hr), a3.grown hg (nc_blk a3 hr)⟩, a4, bl_grown hg a5 (fun k e => by have := (hr k e).1; omega), Nat.le_trans a6 hg.size⟩)
      (fun c _ W W' row hs hg hr => by
        obtain ⟨a0, lst, A, c', a1, a2, a3, a4, a5⟩ := hs
        exact ⟨a0, lst, A, c', a1, a2.grown hg (nc_blk a2 hr), a3.grown hg (nc_blk a3 hr), a4.kept hg (nc_own a4 hr), bl_grown hg a5 (fun k e => by have := (hr k e).1; omega)⟩)
      ⟨⟨hB0A, hR2A, hR3A⟩, rfl, hbwA, Nat.le_refl _⟩
      (fun x a' W => ∃ Bk, Blk W Bk 32 #[.int .i64 x.2.1, .int .i64 x.2.2] ∧ w2.heap.size ≤ Bk ∧ a' = { tmps := #[.pointer (some ⟨h, 0, none⟩), .pointer (some ⟨w.heap.size, 0, none⟩), .pointer (some ⟨w.heap.size + 1, 0, none⟩), .pointer (some ⟨w.heap.size + 1 + 1, 0, none⟩), .slice A1 2 c1, undef, .pointer (some ⟨Bk, 0, none⟩), undef, undef, .pointer (some ⟨h, 0, none⟩), .slice A1 2 c1, .slice A1 2 c1, .int .i64 2, .bool false, .slice A1 2 c1, .func (.func 126) #[] #[.pointer (some ⟨w1.heap.size, 0, none⟩)], .int .i64 (x.1 : Int), .agg #[.int .i64 x.2.1, .int .i64 x.2.2], undef, undef, undef, undef, undef, undef, undef, undef, undef, undef, undef, undef, undef, undef, undef, undef], defers := [] })
      (fun x a' s W W' row hs hg hr => by
        obtain ⟨Bk, hX, hBk, rfl⟩ := hs
        exact ⟨Bk, hX.grown hg (nc_blk hX hr), hBk, rfl⟩) ?assign ?body ?done ?stop
    case assign =>
      rintro l pre x W K ⟨⟨a1, a2, a3⟩, a4, a5, a6⟩ hK
      unfold encB kk
      gi_wp2
      have hb2 : Below W.heap.size W (W.alloc (.cells #[.int .i64 x.2.1, .int .i64 x.2.2] 32)) := by (repeat (first | exact bl_refl | assumption | (apply bl_then; assumption) | refine bl_alloc ?_ _ | refine bl_drew ?_ | refine bl_drewN ?_ _))
      exact hK _ _ (keeps_of_below hb2) (KeepB.of_below hb2 a6) ⟨⟨a1.below hb2, a2.below hb2, a3.below hb2⟩, a4, bl_then hb2 a5, Nat.le_trans a6 hb2.size⟩ ⟨W.heap.size, Blk.new W _ _, a6, rfl⟩
    case body =>
      rintro l pre ⟨i, kx, ky⟩ a' W _ _ ⟨⟨a1, a2, a3⟩, a4, a5, a6⟩ ⟨Bk, hX, hBk, rfl⟩ hlt
      have HW := H.below a5
      obtain ⟨mk, ck, hm, _, gk⟩ := HW.knots
      obtain ⟨⟨l0, l1, l2, l3⟩, hL⟩ : ∃ L, legsAt D (kx, ky) = L := ⟨_, rfl⟩
      have hlook : ∀ g : Bel W.heap.size W, (Instr.lookup 120 (.map (some rk)) (.agg #[.int .i64 kx, .int .i64 ky]) false).run Tryz.prog g.val = .ok (.agg #[.bool l0, .bool l1, .bool l2, .bool l3]) g.val := fun g => by
        rw [look_legs (hm.below g.below) kx ky, gk (kx, ky), legsO_getD, hL]; rfl
      have HL := Lib.hid hL
      have HN := Lib.hid a4
      clear hm gk hL a4
      have f1 := a1.facts
      have fX := hX.facts
      have fH := HW.blk.facts
      simp only at fX hX ⊢
      obtain ⟨q1, hq1⟩ : ∃ q, (((cnt (l0, l1, l2, l3) : Nat) : Int) != 1) = q := ⟨_, rfl⟩
      gi_wp2
      refine wpIn_region_ords [0, 1, 2, 3, 4, 5] [] [6, 7] (fun _ => trivial) (by kernel_rfl) (by kernel_rfl) (by kernel_rfl) (fun d _ _ _ _ h => by cases d <;> exact h) ?_
      simp only [List.map_cons, List.map_nil, List.getD_cons_zero, List.getD_cons_succ]
      repeat (go_big_quiet_step (fail))
      refine wpQuiet_nil ?_
      clear hlook
      refine wpMidI_nil ?_
      cases q1
      · have hc1 : cnt (legsAt D (kx, ky)) = 1 := by
          rw [HL.out]
          have : ((cnt (l0, l1, l2, l3) : Nat) : Int) = 1 := by simpa using hq1
          omega
        obtain ⟨R, hR⟩ : ∃ R, isRunP D (walkL D (kx, ky)) = R := ⟨_, rfl⟩
        have hwk := fun W' (hW' : HoleAt W' h rb rk D) => walk_any h rb rk D kx ky W' hW' hk hlen hc1
        rw [hR] at hwk
        have HT : Hid (tryRun D (kx, ky) = if R = true then some (walkL D (kx, ky)) else none) := by
          unfold Hid tryRun
          rw [hc1, hR]
          cases R <;> rfl
        clear hR hc1
        cases R
        · gi_wp2_with (first | (refine ⟨trivial, ?_⟩; gi_at_call 57; refine (CallsIn.inRound l (callsIn_wide.2 (count_any l0 l1 l2 l3 _))).mono ?_; rintro e w3 ⟨rfl, hb3'⟩; have h13 := a1.below (bl_d hb3'); have f13 := h13.facts; have hX3 := hX.below (bl_d hb3'); have fX3 := hX3.facts; have hH3' := HW.below (bl_d hb3')) |
            (refine ⟨trivial, ?_⟩; gi_at_call 91; refine (CallsIn.inRound l (callsIn_wide.2 (hwk _ hH3'))).mono ?_; rintro e w4 ⟨v4, rfl, hv4, hb4⟩; obtain ⟨A4, c4, rfl⟩ := hv4.shape))
          have hbW4 : Below W.heap.size W w4 := bl_then hb4 (bl_d hb3')
          exact ⟨keeps_of_below hbW4, KeepB.of_below hbW4 a6, ⟨a1.below hbW4, a2.below hbW4, a3.below hbW4⟩, by rw [tryAll_snoc _ _ _ HN.out]; exact HT.out, bl_then hbW4 a5, Nat.le_trans a6 hbW4.size⟩
        · gi_wp2_with (first | (refine ⟨trivial, ?_⟩; gi_at_call 57; refine (CallsIn.inRound l (callsIn_wide.2 (count_any l0 l1 l2 l3 _))).mono ?_; rintro e w3 ⟨rfl, hb3'⟩; have h13 := a1.below (bl_d hb3'); have f13 := h13.facts; have hX3 := hX.below (bl_d hb3'); have fX3 := hX3.facts; have hH3' := HW.below (bl_d hb3')) |
            (refine ⟨trivial, ?_⟩; gi_at_call 91; refine (CallsIn.inRound l (callsIn_wide.2 (hwk _ hH3'))).mono ?_; rintro e w4 ⟨v4, rfl, hv4, hb4⟩; obtain ⟨A4, c4, rfl⟩ := hv4.shape; have h24 := a2.below (bl_then hb4 (bl_d hb3')); have h34 := a3.below (bl_then hb4 (bl_d hb3')); have f24 := h24.facts; have f34 := h34.facts))
          have hbW4 : Below W.heap.size W w4 := bl_then hb4 (bl_d hb3')
          have hbw4 := bl_then hbW4 a5
          have hs4 := (hv4.lt)
          have hw3s : w.heap.size + 3 ≤ w3.heap.size := by have h1 := (bl_d hb3').size; omega
          have hne1 : (Value.slice A4 (walkL D (kx, ky)).length c4).ownBlock ≠ some (w.heap.size + 1) := fun e => by have := (hs4 _ e).1; omega
          have hne2 : (Value.slice A4 (walkL D (kx, ky)).length c4).ownBlock ≠ some (w.heap.size + 1 + 1) := fun e => by have := (hs4 _ e).1; omega
          exact ⟨(keeps_of_below hbW4).trans ((keeps_set h24 0 _).trans (keeps_set (h34.far (by simp) _) 0 _)), rfl, walkL D (kx, ky), A4, c4, by rw [tryAll_snoc _ _ _ HN.out]; exact HT.out,
            (h24.set_ 0 _).far (by simp) _, (h34.far (by simp) _).set_ 0 _, ((hv4.base_mono (by omega)).set hne1 _).set hne2 _, bl_set (bl_set hbw4 (by simp) _) (by simp; omega) _⟩
      · gi_wp2_with (refine ⟨trivial, ?_⟩; gi_at_call 57; refine (CallsIn.inRound l (callsIn_wide.2 (count_any l0 l1 l2 l3 _))).mono ?_; rintro e w3 ⟨rfl, hb3'⟩)
        have hbW3 : Below W.heap.size W w3 := bl_d hb3'
        have HT : tryRun D (kx, ky) = none := by
          unfold tryRun
          rw [HL.out]
          have h1 : (cnt (l0, l1, l2, l3) == 1) = false := by
            rw [beq_eq_false_iff_ne]
            intro e
            rw [e] at hq1
            cases hq1
          rw [h1]
          rfl
        exact ⟨keeps_of_below hbW3, KeepB.of_below hbW3 a6, ⟨a1.below hbW3, a2.below hbW3, a3.below hbW3⟩, by rw [tryAll_snoc _ _ _ HN.out]; exact HT, bl_then hbW3 a5, Nat.le_trans a6 hbW3.size⟩
    case done =>
      rintro D' ys W hD rfl ⟨⟨a1, a2, a3⟩, a4, a5, a6⟩ hK
      have f2 := a2.facts
      have f3 := a3.facts
      gi_wp2
      have hK2 := ((KeepsOthers.setCell W ⟨w.heap.size + 1, 0, none⟩ (.slice none 0 0)).trans (KeepsOthers.setCell _ ⟨w.heap.size + 1 + 1, 0, none⟩ (.bool false))).same D' _ hK rfl
      refine ⟨by simp, .inl ⟨_, _, rfl, run_takeDeferred hK2, ?_⟩⟩
      have b2 := ((a2.set_ 0 (.slice none 0 0)).far (p := ⟨w.heap.size + 1 + 1, 0, none⟩) (by simp) (.bool false)).putDef hK2 (.deferred none)
      have b3 := ((a3.far (p := ⟨w.heap.size + 1, 0, none⟩) (by simp) (.slice none 0 0)).set_ 0 (.bool false)).putDef hK2 (.deferred none)
      have g2 := b2.facts
      have g3 := b3.facts
      have hbE := below_putDef (bl_set (bl_set a5 (p := ⟨w.heap.size + 1, 0, none⟩) (by simp) (.slice none 0 0)) (p := ⟨w.heap.size + 1 + 1, 0, none⟩) (by simp; omega) (.bool false)) hK2 (by omega) (.deferred none)
      have hno : runO D = none := by rw [hrun.out, a4]
      refine ⟨.tuple #[.slice none 0 0, .bool false], by simp [results, Tryz.results48, go_sem, g2, g3], .slice none 0 0, by rw [hno]; rfl, by rw [hno]; exact Own.nil_, hbE⟩
    case stop =>
      rintro D' c pre W hD hp ⟨rfl, lst, A, c', a1, a2, a3, a4, a5⟩ hK
      have f2 := a2.facts
      have f3 := a3.facts
      gi_wp2
      refine ⟨by simp, .inl ⟨_, _, rfl, run_takeDeferred hK, ?_⟩⟩
      have b2 := a2.putDef hK (.deferred none)
      have b3 := a3.putDef hK (.deferred none)
      have g2 := b2.facts
      have g3 := b3.facts
      have hbE := below_putDef a5 hK (by omega) (.deferred none)
      have hso : runO D = some lst := by rw [hrun.out]; exact tryAll_prefix hp a1
      refine ⟨.tuple #[.slice A lst.length c', .bool true], by simp [results, Tryz.results48, go_sem, g2, g3], .slice A lst.length c', by rw [hso]; rfl, by rw [hso]; exact ownsRow_putObj a4 _ hK rfl, hbE⟩
  · have hno := runO_len h2
    have hodd : Calls Tryz.prog 89 #[.pointer (some ⟨h, 0, none⟩)] w0 (RK w0 (oddK D)) := hodd_any h rb rk D w0 H3 hs hlen
    have hol : (oddK D).length ≤ 200000 := by
      have := List.length_filter_le (fun k => oddL (legsAt D k)) (holeK D)
      have := holeK_len D
      have e : (oddK D).length ≤ (holeK D).length := by unfold oddK; assumption
      omega
    obtain ⟨od, hod⟩ : ∃ od, oddK D = od := ⟨_, rfl⟩
    rw [hod] at hodd h2 hol
    rw [hno]
    clear hod hno
    refine (callsIn_wide (n := 6)).1 ?_
    refine callsIn_of_wp_marks Tryz.func48 rfl trivial ?_ rfl
    simp only [Tryz.ntmps48, List.size_toArray, List.length_cons, List.length_nil, Nat.reduceAdd, Nat.reduceSub, Array.replicate_succ, Array.replicate_zero, List.push_toArray, List.append_toArray, List.nil_append, List.cons_append]
    have fB0 := hB0.facts
    have h2' : (((od.length : Int)) != 2) = true := by simp; omega
    gi_wp2_with (refine ⟨trivial, ?_⟩; gi_at_call 89; refine (callsIn_wide.2 hodd).mono ?_; rintro e w1 ⟨v, rfl, hv1, hb1⟩; obtain ⟨A1, c1, rfl⟩ := hv1.shape; have h21 := hR2.below hb1; have h31 := hR3.below hb1; have f21 := h21.facts; have f31 := h31.facts)
    have b2 := (h21.set_ 0 (.slice none 0 0)).far (p := ⟨w.heap.size + 1 + 1, 0, none⟩) (by simp) (.bool false)
    have b3 := (h31.far (p := ⟨w.heap.size + 1, 0, none⟩) (by simp) (.slice none 0 0)).set_ 0 (.bool false)
    have g2 := b2.facts
    have g3 := b3.facts
    refine ⟨.tuple #[.slice none 0 0, .bool false], by simp [results, Tryz.results48, go_sem, g2, g3], .slice none 0 0, rfl, Own.nil_, ?_⟩
    exact bl_set (bl_set (bl_then hb1 hb3) (by simp) _) (by simp; omega) _

/-- whether the hole is ready -/
def rdyB (D : List Bar) : Bool := (runO D).isSome
theorem ready_any (h rb rk : Nat) (D : List Bar) (w : World) (H : HoleAt w h rb rk D) (hk : ∀ b ∈ D, BarOk b) (hlen : D.length ≤ 100000) :
    Calls Tryz.prog 52 #[.pointer (some ⟨h, 0, none⟩)] w (RV w (.bool (rdyB D))) := by
  go_enter Tryz.func52, Tryz.ntmps52
  go_wp2_with (go_at_call 48; refine (run_any h rb rk D _ H hk hlen).mono ?_; rintro e w1 ⟨v, rfl, _, hb1⟩)
  go_ret
  exact ⟨rfl, hb1⟩
end Go.Proofs.YtpompeancmonbaaGreat

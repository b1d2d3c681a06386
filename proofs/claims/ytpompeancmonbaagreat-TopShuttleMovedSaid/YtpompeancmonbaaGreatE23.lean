/- The kinds of a torn net's knots, of the program, walked. Conditions: slices that read as lists. -/
import Derived.Test.YtpompeancmonbaaGreatE22
import Derived.Test.YtpompeancmonbaaGreatE14
import Derived.Test.YtpompeancmonbaaGreatE21
namespace Go.Proofs.YtpompeancmonbaaGreat
open Go.RowKit Go.ChangeMaps
set_option maxHeartbeats 4000000
set_option maxRecDepth 100000
attribute [local go_sem] Oper.semAt_some

/-- a knot, how many bars it lacks, its kind's number -/
abbrev LegT := Knot × Nat × Nat
def lc (x : LegT) : List Value := [.int .i64 x.1.1, .int .i64 x.1.2, .int .i64 x.2.1, kstr x.2.2]
theorem lc_len (x : LegT) : (lc x).length = 4 := rfl
theorem kstr_one (i : Nat) : (kstr i).oneCell' = true := rfl
theorem lc_one (x : LegT) : ∀ u ∈ lc x, u.oneCell' = true := by
  intro u hu
  simp [lc] at hu
  rcases hu with rfl | rfl | rfl | rfl
  · rfl
  · rfl
  · rfl
  · exact kstr_one _
theorem leg_elem : Elem Tryz.prog 49 53 4 40 := ⟨by kernel_rfl, by kernel_rfl, by decide⟩
abbrev OwL (base : Nat) := Own lc 4 base 53
theorem Sl.one_leg (w : World) (x : LegT) : Sl lc 4 (w.alloc (.cells #[.int .i64 x.1.1, .int .i64 x.1.2, .int .i64 x.2.1, kstr x.2.2] 53)) (.slice (some ⟨w.heap.size, 0, none⟩) 1 1) [x] := by
  have hB := Blk.new w 53 #[.int .i64 x.1.1, .int .i64 x.1.2, .int .i64 x.2.1, kstr x.2.2]
  refine ⟨_, 1, rfl, by simp, by simp [maxLen], fun i b hb => ?_⟩
  match i, hb with
  | 0, hb =>
    obtain rfl : x = b := by simpa using hb
    refine ⟨_, 0, rfl, hB.lt, fun j u hj => ?_⟩
    rw [hB.cell]
    simpa [lc] using hj
theorem wpListIn_appL1 {F : Fence} {n : Nat} {ops : Array Oper} {rest : List Oper} {o : Oper} {a : Act} {Q : Exit → Act → World → Prop} {base : Nat} {W : World} {v : Value} {x y : Int} {m i : Nat} {l : List LegT} (hown : OwL base W v l) {g : Nat} (hgd : o.guard = none) (s z : Operand)
    (ho : o.op = .call { callee := .builtin .append, args := #[s, z], argTypes := #[49, 49] })
    (hs : a.eval s = v) (hx : a.eval z = .slice (some ⟨g, 0, none⟩) 1 1) (hg : W.heap.size = g) (hlen : l.length ≤ 1000000) (hbase : base ≤ W.heap.size)
    (h : ∀ v' w', OwL base w' v' (l ++ [((x, y), m, i)]) → (W.alloc (.cells #[.int .i64 x, .int .i64 y, .int .i64 m, kstr i] 53)).grownBy w' v.ownBlock → wpListIn F n Tryz.prog ops Q rest (a.put o.dst v') w') :
    wpListIn F n Tryz.prog ops Q (o :: rest) a (W.alloc (.cells #[.int .i64 x, .int .i64 y, .int .i64 m, kstr i] 53)) := by
  subst hg
  exact wpListIn_app hgd leg_elem lc_len lc_one s z ho base v _ l [((x, y), m, i)] hs hx (hown.alloc _) (Sl.one_leg W ((x, y), m, i)) (by simp [maxLen]; omega) (by simp; omega) (by simp; omega) h

def legOf (D : List Bar) (k : Knot) : LegT := (k, cnt (legsAt D k), kix (legsAt D k))
def kindsL (N D : List Bar) : List LegT := if tornE N D = 0 then (holeK D).map (legOf D) else []
/-- the call returns a fresh row of legs and an error -/
def RLE (w : World) (l : List LegT) (n : Int) (e : Ending) (w' : World) : Prop := ∃ v, e = .returned (.tuple #[v, .int .i64 n]) ∧ OwL w.heap.size w' v l ∧ Below w.heap.size w w'

theorem KindsAt.below {w W : World} {b p0 p1 p2 p5 : Nat} (h : KindsAt w b p0 p1 p2 p5) (hb : Below w.heap.size w W) : KindsAt W b p0 p1 p2 p5 := ⟨h.b.below hb, h.n0.below hb, h.n1.below hb, h.n2.below hb, h.n5.below hb⟩
theorem KindsAt.alloc {w : World} {b p0 p1 p2 p5 : Nat} (h : KindsAt w b p0 p1 p2 p5) (o : Obj) : KindsAt (w.alloc o) b p0 p1 p2 p5 := h.below (bl_alloc bl_refl o)
theorem KindsAt.str {w : World} {b p0 p1 p2 p5 : Nat} (h : KindsAt w b p0 p1 p2 p5) {k : Nat} (hk : k < 6) : b < w.heap.size ∧ w.cell? ⟨b, k * 2, none⟩ = some (kstr k) := by
  refine ⟨h.b.lt, ?_⟩
  rw [h.b.cell]
  obtain rfl | rfl | rfl | rfl | rfl | rfl : k = 0 ∨ k = 1 ∨ k = 2 ∨ k = 3 ∨ k = 4 ∨ k = 5 := by omega
  all_goals rfl
theorem KindsAt.grown {w W : World} {b p0 p1 p2 p5 B : Nat} {row : Option Nat} (h : KindsAt w b p0 p1 p2 p5) (hg : w.grownBy W row) (hr : ∀ r, row = some r → B ≤ r ∧ ∃ o : Obj, w.heap[r]? = some o ∧ o.isCells = false) : KindsAt W b p0 p1 p2 p5 :=
  ⟨h.b.grown hg (nc_blk h.b hr), h.n0.grown hg (nc_blk h.n0 hr), h.n1.grown hg (nc_blk h.n1 hr), h.n2.grown hg (nc_blk h.n2 hr), h.n5.grown hg (nc_blk h.n5 hr)⟩
theorem Blk.far2 {w : World} {g g' : Nat} {t t' : TypeId} {cs cs' : Array Value} (h : Blk w g t cs) (h' : Blk w g' t' cs') (ht : t ≠ t') (i : Nat) (u : Value) : Blk (w.setCell ⟨g', i, none⟩ u) g t cs :=
  h.far (fun e => by
    have e' : g = g' := e
    subst e'
    unfold Blk at h h'
    rw [h] at h'
    exact ht (by injection (Option.some.inj h'))) u
theorem KindsAt.own {w W : World} {b p0 p1 p2 p5 base : Nat} {v : Value} {l : List LegT} (h : KindsAt w b p0 p1 p2 p5) (ho : OwL base w v l) (hg : w.grownBy W v.ownBlock) : KindsAt W b p0 p1 p2 p5 :=
  ⟨h.b.grown hg (ho.ne_blk h.b (by decide)), h.n0.grown hg (ho.ne_blk h.n0 (by decide)), h.n1.grown hg (ho.ne_blk h.n1 (by decide)), h.n2.grown hg (ho.ne_blk h.n2 (by decide)), h.n5.grown hg (ho.ne_blk h.n5 (by decide))⟩
theorem KindsAt.set {w : World} {b p0 p1 p2 p5 g : Nat} {cs : Array Value} (h : KindsAt w b p0 p1 p2 p5) (hB : Blk w g 49 cs) (i : Nat) (u : Value) : KindsAt (w.setCell ⟨g, i, none⟩ u) b p0 p1 p2 p5 :=
  ⟨h.b.far2 hB (by decide) _ _, h.n0.far2 hB (by decide) _ _, h.n1.far2 hB (by decide) _ _, h.n2.far2 hB (by decide) _ _, h.n5.far2 hB (by decide) _ _⟩
theorem pkinds_any {v u : Value} (N D : List Bar) (w : World) (hN : SlB w v N) (hD : SlB w u D) : Calls Tryz.prog 15 #[.agg #[v, u]] w (RLE w (kindsL N D) (tornE N D)) := by
  have hB := Blk.new w 27 #[v, u]
  have hN0 := hN.alloc (.cells #[v, u] 27)
  have hD0 := hD.alloc (.cells #[v, u] 27)
  by_cases hE0 : tornE N D = 0
  · have hE' : (tornE N D != 0) = false := by rw [hE0]; rfl
    have hok := torn_ok hE0
    have hlen := hok.lens.2
    have hsd : ∀ b ∈ D, Sided b := fun b hb => (hok.dam.ok b hb).2.2
    have HS : Hid (kindsL N D = (holeK D).map (legOf D) ∧ tornE N D = 0) := by unfold Hid kindsL; rw [if_pos hE0]; exact ⟨rfl, hE0⟩
    clear hE0
    refine (callsIn_wide (n := 6)).1 ?_
    refine callsIn_of_wp_marks Tryz.func15 rfl trivial ?_ rfl
    simp only [Tryz.ntmps15, List.size_toArray, List.length_cons, List.length_nil, Nat.reduceAdd, Nat.reduceSub, Array.replicate_succ, Array.replicate_zero, List.push_toArray, List.append_toArray, List.nil_append, List.cons_append]
    gi_wp2_with (first | (refine ⟨trivial, ?_⟩; gi_at_call 45; refine (callsIn_wide.2 (mtorn_any N D _ hN0 hD0)).mono ?_; rintro e w1 ⟨rfl, hb1⟩; have hB1 := hB.below hb1; have hD1 := hD0.below hb1; have f1 := hB1.facts) |
      (refine ⟨trivial, ?_⟩; gi_at_call 53; refine (callsIn_wide.2 (kinds_any _)).mono ?_; rintro e w2 ⟨bk, p0, p1, p2, p5, rfl, hbk, hp0, hp1, hp2, hp5, hK2, hb2⟩; have hB2 := hB1.below hb2; have hD2 := hD1.below hb2; have f2 := hB2.facts; have hBB := (hB2.alloc (.cells #[.slice (some ⟨bk, 0, none⟩) 6 6] 100)).alloc (.cells #[.slice none 0 0] 49); have fBB := hBB.facts; have hT2 := (Blk.new w2 100 #[.slice (some ⟨bk, 0, none⟩) 6 6]).alloc (.cells #[.slice none 0 0] 49); have hO2 := Blk.new1 w2 (.cells #[.slice (some ⟨bk, 0, none⟩) 6 6] 100) 49 #[.slice none 0 0]; have hK2' := (hK2.alloc (.cells #[.slice (some ⟨bk, 0, none⟩) 6 6] 100)).alloc (.cells #[.slice none 0 0] 49)) |
      (refine ⟨trivial, ?_⟩; gi_at_call 47; refine (callsIn_wide.2 (newHole_any D _ ((hD2.alloc _).alloc _) hok.dam.nodup hok.dam.ok)).mono ?_; rintro e w3 ⟨h, rb, rk, rfl, hh3, hrb3, hrk3, H3, hb3⟩) |
      (refine ⟨trivial, ?_⟩; gi_at_call 54; refine (callsIn_wide.2 (all_any h rb rk D _ H3 hsd hlen)).mono ?_; rintro e w4 ⟨bh, bl, va, rfl, hbh, hbl, hBh, hBl, hv, hb4⟩))
    simp only [World.size_alloc] at hh3 hrb3 hrk3
    have z1 := hb1.size
    have z2 := hb2.size
    have z3 := hb3.size
    have z4 := hb4.size
    simp only [World.size_alloc] at z1 z3
    have hHlt := H3.blk.lt
    have hrblt : rb < w3.heap.size := by obtain ⟨_, _, hm, _⟩ := H3.bars; exact hm.lt
    have hrklt : rk < w3.heap.size := by obtain ⟨_, _, hm, _⟩ := H3.knots; exact hm.lt
    have hT4 := (hT2.below hb3).below hb4
    have hO4 := (hO2.below hb3).below hb4
    have hK4 := (hK2'.below hb3).below hb4
    have hH4 := H3.below hb4
    have hbw4 : Below w.heap.size w w4 := by (repeat (first | exact bl_refl | assumption | (apply bl_then; assumption) | refine bl_alloc ?_ _ | refine bl_drew ?_ | refine bl_drewN ?_ _))
    have hN := holeK_len D
    clear hB hN0 hD0 hB1 hD1 f1 hB2 hD2 f2 hBB fBB hT2 hO2 hK2 hK2' H3
    obtain ⟨q, hq⟩ : ∃ q, w2.heap.size = q := ⟨_, rfl⟩
    rw [hq] at hT4 hO4 hh3 hrb3 hrk3 z2 z3 ⊢
    refine wpIn_rangeFunc_ownH rfl (by omega) (gf := 102) (lb := #[.pointer (some ⟨bl, 0, none⟩), .pointer (some ⟨bh, 0, none⟩)]) rfl trivial (enters_of Tryz.func102 (by kernel_rfl) rfl)
      (all_stops 5 (by omega) [q + 1] bl bh h rb rk w3.heap.size D va w4 (by simp; omega) (by simp; omega) (by simp; omega) (by simp; omega) (by simp; omega) (by simp; omega) hBl hBh hH4 hv) keepB_t (keepB_b (Nat.le_refl _)) (Below.refl _ _) (fun _ => rfl)
      (fun pre W => (Blk W q 100 #[.slice (some ⟨bk, 0, none⟩) 6 6] ∧ KindsAt W bk p0 p1 p2 p5) ∧ (∃ u, Blk W (q + 1) 49 #[u] ∧ OwL w4.heap.size W u (pre.map (legOf D))) ∧ Below w.heap.size w W ∧ w4.heap.size ≤ W.heap.size)
      (fun _ _ _ => False)
      (fun _ W W' row hs hg hr => by
        obtain ⟨⟨k1, k2⟩, ⟨u, h1, h2⟩, h3, h4⟩ := hs
        exact ⟨⟨k1.grown hg (nc_blk k1 hr), k2.grown hg hr⟩, ⟨u, h1.grown hg (nc_blk h1 hr), h2.kept hg (nc_own h2 hr)⟩, bl_grown hg h3 (fun k e => by have := (hr k e).1; omega), Nat.le_trans h4 hg.size⟩)
      (fun _ _ _ _ _ hs _ _ => hs)
      ⟨⟨hT4, hK4⟩, ⟨_, hO4, Own.nil_⟩, hbw4, Nat.le_refl _⟩
      (fun x a' W => ∃ Bk Bl, Bx D x w4.heap.size Bk Bl W ∧ a' = { tmps := #[.agg #[v, u], .pointer (some ⟨w.heap.size, 0, none⟩), .slice none 0 0, .int .i64 0, .int .i64 (tornE N D), .pointer (some ⟨q, 0, none⟩), .pointer (some ⟨q + 1, 0, none⟩), .pointer (some ⟨Bk, 0, none⟩), .pointer (some ⟨Bl, 0, none⟩), undef,
        .agg #[v, u], .int .i64 (tornE N D), .int .i64 (tornE N D), .bool false, undef, .slice (some ⟨bk, 0, none⟩) 6 6, .pointer (some ⟨w.heap.size, 1, none⟩), u, .pointer (some ⟨h, 0, none⟩), .func (.func 102) #[] #[.pointer (some ⟨bl, 0, none⟩), .pointer (some ⟨bh, 0, none⟩)], kk x, lv (legsAt D x),
        undef, undef, undef, undef, undef, undef, undef, undef, undef, undef, undef, undef, undef, undef, undef, undef], defers := [] })
      (fun x a' s W W' row hs hg hr => by
        obtain ⟨Bk, Bl, hX, rfl⟩ := hs
        exact ⟨Bk, Bl, Bx.own s W W' row hX hg hr, rfl⟩) ?assign ?body ?done ?stop
    case assign =>
      rintro l pre x W K ⟨⟨k1, k2⟩, ⟨u, hu1, hu2⟩, hbw, hsz⟩ hK
      unfold encs kk lv
      gi_wp2
      have hb2 : Below W.heap.size W ((W.alloc (.cells #[.int .i64 x.1, .int .i64 x.2] 32)).alloc (.cells #[.bool (legsAt D x).1, .bool (legsAt D x).2.1, .bool (legsAt D x).2.2.1, .bool (legsAt D x).2.2.2] 106)) := by (repeat (first | exact bl_refl | assumption | (apply bl_then; assumption) | refine bl_alloc ?_ _ | refine bl_drew ?_ | refine bl_drewN ?_ _))
      exact hK _ _ (keeps_of_below hb2) (KeepB.of_below hb2 hsz) ⟨⟨k1.below hb2, k2.below hb2⟩, ⟨u, hu1.below hb2, hu2.below hb2⟩, bl_then hb2 hbw, Nat.le_trans hsz hb2.size⟩
        ⟨W.heap.size, W.heap.size + 1, ⟨(Blk.new W _ _).alloc _, Blk.new1 W _ _ _, hsz, by omega⟩, rfl⟩
    case body =>
      rintro l pre ⟨x, y⟩ a' W _ _ ⟨⟨k1, k2⟩, ⟨u, hu1, hu2⟩, hbw, hsz⟩ ⟨Bk, Bl, hX, rfl⟩ hlt
      obtain ⟨⟨l0, l1, l2, l3⟩, hL⟩ : ∃ L, legsAt D (x, y) = L := ⟨_, rfl⟩
      have hT : Hid ((pre ++ [(x, y)]).map (legOf D) = pre.map (legOf D) ++ [((x, y), cnt (l0, l1, l2, l3), kix (l0, l1, l2, l3))]) := by
        unfold Hid
        rw [List.map_append, ← hL]; rfl
      obtain ⟨hXk, hXl, hk1, hk2⟩ := hX
      rw [hL] at hXl
      unfold kk lv
      rw [hL]
      simp only at hXk hXl
      have hkx := (kix_lt l0 l1 l2 l3).1
      have hfk := findKind_any l0 l1 l2 l3 bk p0 p1 p2 p5 Bl
      obtain ⟨kx, hkxe⟩ : ∃ kx, kix (l0, l1, l2, l3) = kx := ⟨_, rfl⟩
      rw [hkxe] at hkx hT hfk
      have fk := hXk.facts
      have fl := hXl.facts
      have ft := k1.facts
      clear hL hkxe
      gi_wp2_with (refine ⟨trivial, ?_⟩; gi_at_call 55; refine (CallsIn.inRound l (callsIn_wide.2 (hfk W k2 hXl))).mono ?_; rintro e w5 ⟨rfl, hb5⟩)
      have k15 := k1.below hb5
      have k25 := k2.below hb5
      have hu15 := hu1.below hb5
      have hu25 := hu2.below hb5
      have hXk5 := hXk.below hb5
      have hXl5 := hXl.below hb5
      obtain ⟨hbk5, hst5⟩ := k25.str hkx
      have g1 := k15.facts
      have g2 := hu15.facts
      have g3 := hXk5.facts
      have g4 := hXl5.facts
      have hk6 : (kx : Int) < 6 := by omega
      clear fk fl ft
      refine wpIn_region_ords [0, 1, 2, 4, 5, 6, 7, 8] [(3, false), (9, false), (10, false)] [11, 12] (fun _ => trivial) (by kernel_rfl) (by kernel_rfl) (by kernel_rfl) (fun d _ _ _ _ h => by cases d <;> exact h) ?_
      simp only [List.map_cons, List.map_nil, List.getD_cons_zero, List.getD_cons_succ]
      repeat (go_big_quiet_step (fail))
      refine wpQuiet_nil ?_
      refine wpMidI_run rfl (fun K hK => ?_)
      go_simp
      refine ⟨trivial, ?_⟩
      refine (CallsIn.inRound l (callsIn_wide.2 (count_any l0 l1 l2 l3 _))).mono ?_
      rintro e w6 ⟨rfl, hb6⟩
      refine hK _ _ (by (repeat (first | exact bl_refl | assumption | (apply bl_then; assumption) | refine bl_alloc ?_ _ | refine bl_drew ?_ | refine bl_drewN ?_ _))) ?_
      clear hK K
      refine wpMidI_run rfl (fun K hK => ?_)
      go_simp
      refine hK _ _ (by (repeat (first | exact bl_refl | assumption | (apply bl_then; assumption) | refine bl_alloc ?_ _ | refine bl_drew ?_ | refine bl_drewN ?_ _))) ?_
      clear hK K
      refine wpMidI_run rfl (fun K hK => ?_)
      go_simp
      refine hK _ _ (by (repeat (first | exact bl_refl | assumption | (apply bl_then; assumption) | refine bl_alloc ?_ _ | refine bl_drew ?_ | refine bl_drewN ?_ _))) ?_
      clear hK K
      refine wpMidI_nil ?_
      have hb6' : Below w5.heap.size w5 w6 := bl_d hb6
      have hu16 := hu15.below hb6'
      have hu26 := hu25.below hb6'
      have f6 := hu16.facts
      have hb56 : Below W.heap.size W w6 := bl_then hb6' hb5
      have hsz6 : w4.heap.size ≤ w6.heap.size := Nat.le_trans hsz hb56.size
      have hal : Below w6.heap.size w6 (w6.alloc (.cells #[.int .i64 x, .int .i64 y, .int .i64 (cnt (l0, l1, l2, l3)), kstr kx] 53)) := bl_alloc bl_refl _
      have hsz7 : w4.heap.size ≤ (w6.alloc (.cells #[.int .i64 x, .int .i64 y, .int .i64 (cnt (l0, l1, l2, l3)), kstr kx] 53)).heap.size := Nat.le_trans hsz6 hal.size
      have HLN : (pre.map (legOf D)).length ≤ 1000000 := by rw [List.length_map]; omega
      gi_wp2_with (gi_at_builtin; refine wpListIn_appL1 hu26 rfl _ _ rfl rfl rfl rfl HLN hsz6 ?_; intro v3 w7 hu3 hgr3; obtain ⟨A3, c3, rfl⟩ := hu3.shape; have hu13 := (hu16.alloc (.cells #[.int .i64 x, .int .i64 y, .int .i64 (cnt (l0, l1, l2, l3)), kstr kx] 53)).grown hgr3 (hu26.ne_blk hu16 (by decide)); have fo3 := hu13.facts)
      simp only [List.length_append, List.length_cons, List.length_nil, Nat.zero_add] at hu3
      rw [List.length_map] at hu3
      have hu26a := hu26.alloc (.cells #[.int .i64 x, .int .i64 y, .int .i64 (cnt (l0, l1, l2, l3)), kstr kx] 53)
      have k16 := (k15.below hb6').alloc (.cells #[.int .i64 x, .int .i64 y, .int .i64 (cnt (l0, l1, l2, l3)), kstr kx] 53)
      have k26 := (k25.below hb6').alloc (.cells #[.int .i64 x, .int .i64 y, .int .i64 (cnt (l0, l1, l2, l3)), kstr kx] 53)
      have k17 := k16.grown hgr3 (hu26a.ne_blk k16 (by decide))
      have k27 := k26.own hu26a hgr3
      have hbw3 : Below w.heap.size w w7 := bl_grown hgr3 (bl_then hal (bl_then hb56 hbw)) (fun k e => by have := (hu26.lt k e).1; omega)
      exact ⟨(keeps_of_below hb56).trans ((keeps_of_below hal).trans ((keeps_grown hu26a hgr3).trans (keeps_set hu13 0 _))),
        (KeepB.of_below hb56 hsz).trans ((KeepB.of_below hal hsz6).trans ((KeepB.of_grown hgr3 hsz7 (fun k e => (hu26.lt k e).1)).trans (KeepB.of_set (by simp)))),
        ⟨⟨k17.far2 hu13 (by decide) _ _, k27.set hu13 _ _⟩, ⟨_, hu13.set_ 0 _, by rw [hT.out]; exact hu3.set (Ne.symm (hu3.ne_blk hu13 (by decide))) _⟩, bl_set hbw3 (by simp; omega) _, Nat.le_trans hsz7 (Nat.le_trans hgr3.size (by simp [World.setCell]))⟩⟩
    case done =>
      rintro D' ys W hD rfl ⟨⟨k1, k2⟩, ⟨u, hu1, hu2⟩, hbw, hsz⟩ hK
      have fo := hu1.facts
      gi_wp2
      refine ⟨by simp, .inl ⟨_, _, rfl, run_takeDeferred hK, ?_⟩⟩
      exact ⟨.tuple #[u, .int .i64 0], by simp [results, Tryz.results15, go_sem], u, by rw [HS.out.2], by rw [HS.out.1]; exact Own.base_mono (ownsRow_putObj hu2 _ hK rfl) (by omega), hbw.trans (belowK_b (w := w) (Nat.le_refl _) W D' _ _ (by omega) hK rfl rfl)⟩
    case stop =>
      rintro D' c pre W _ _ h _
      exact h.elim
  · have hE' : (tornE N D != 0) = true := by simpa using hE0
    have HS : Hid (kindsL N D = []) := by unfold Hid kindsL; rw [if_neg hE0]
    clear hE0
    go_enter Tryz.func15, Tryz.ntmps15
    go_wp2_with (go_at_call 45; refine (mtorn_any N D _ hN0 hD0).mono ?_; rintro e w1 ⟨rfl, hb1⟩)
    go_ret2
    exact ⟨.slice none 0 0, rfl, by rw [HS.out]; exact Own.nil_, by (repeat (first | exact bl_refl | assumption | (apply bl_then; assumption) | refine bl_alloc ?_ _ | refine bl_drew ?_ | refine bl_drewN ?_ _))⟩
end Go.Proofs.YtpompeancmonbaaGreat

/- The bars between the knots of a walk, and a bar's place, of the reference, walked. Conditions: knots within bounds. -/
namespace Go.Proofs.YtpompeancmonbaaGreat
open Go.RowKit Go.ChangeMaps
set_option maxHeartbeats 4000000
set_option maxRecDepth 100000

def rAdj (a b : Knot) : Bool := if b.2 < a.2 then decide (a.2 = b.2 + 1) && (decide (a.1 - b.1 = 1) || decide (a.1 - b.1 = -1)) else decide (b.2 = a.2 + 1) && (decide (b.1 - a.1 = 1) || decide (b.1 - a.1 = -1))
end Go.Proofs.YtpompeancmonbaaGreat

/- The bars that a walk passes, of the reference, walked. Conditions: knots within bounds. -/
namespace Go.Proofs.YtpompeancmonbaaGreat
open Go.RowKit Go.ChangeMaps
set_option maxHeartbeats 4000000
set_option maxRecDepth 100000

end Go.Proofs.YtpompeancmonbaaGreat

/- Whether a walk is a run, of the reference, walked. Conditions: knots within bounds, at least one. -/
namespace Go.Proofs.YtpompeancmonbaaGreat
open Go.RowKit Go.ChangeMaps
set_option maxHeartbeats 4000000
set_option maxRecDepth 100000

def runOk (D : List Bar) (W : List Knot) (k : Knot) : Bool := !(cnt (legsAt D k) == 4 && decide (placeP (armB k 2) (passP W) 0 < placeP (armB k 0) (passP W) 0))
theorem all_dropK (f : Knot → Bool) {l : List Knot} {k : Nat} (hk : k < l.length) : (l.drop k).all f = (f l[k] && (l.drop (k + 1)).all f) := by
  rw [List.drop_eq_getElem_cons hk]; rfl
end Go.Proofs.YtpompeancmonbaaGreat

/- How the reference's twine goes on at a knot, walked. Conditions: a knot within bounds; it came by one of its arms. -/
namespace Go.Proofs.YtpompeancmonbaaGreat
open Go.RowKit Go.ChangeMaps
set_option maxHeartbeats 4000000
set_option maxRecDepth 100000

theorem beq_arm (k : Knot) {i a : Nat} (hi : i < 4) (ha : a < 4) : beqB (armB k i).1 (armB k i).2.1 (armB k i).2.2 (armB k a).1 (armB k a).2.1 (armB k a).2.2 = decide (i = a) := by
  obtain ⟨x, y⟩ := k
  rw [beqB_bar]
  obtain rfl | rfl | rfl | rfl : i = 0 ∨ i = 1 ∨ i = 2 ∨ i = 3 := by omega
  all_goals
    obtain rfl | rfl | rfl | rfl : a = 0 ∨ a = 1 ∨ a = 2 ∨ a = 3 := by omega
    all_goals (simp [armB] <;> omega)
theorem onw_from {l : Legs} {b : Nat} (h : cnt l ≠ 4) : onw l b = onwFrom l b 0 := by
  unfold onw onwFrom
  rw [if_neg h]
  simp
end Go.Proofs.YtpompeancmonbaaGreat

/- The walk of the reference, walked. Conditions: bars within bounds, a knot that lacks one bar or three. -/
namespace Go.Proofs.YtpompeancmonbaaGreat
open Go.RowKit Go.ChangeMaps
set_option maxHeartbeats 4000000
set_option maxRecDepth 100000

theorem other_arm (k : Knot) {a : Nat} (ha : a < 4) : otherK (armB k a) k = armK k a := by
  obtain ⟨x, y⟩ := k
  unfold otherK
  obtain rfl | rfl | rfl | rfl : a = 0 ∨ a = 1 ∨ a = 2 ∨ a = 3 := by omega
  all_goals simp only [armB, armK, lowK, uppK]
  · simp
    try omega
  · simp
  · rw [if_neg (by intro h; have := congrArg Prod.snd h; simp at this; omega)]
  · rw [if_neg (by intro h; have := congrArg Prod.snd h; simp at this; omega)]
theorem dart_near {k : Knot} {a : Nat} (ha : a < 4) (h : BarOk (armB k a)) : nearK k ∧ nearK (armK k a) := by
  obtain ⟨x, y⟩ := k
  obtain ⟨h1, h2, h3⟩ := h
  obtain rfl | rfl | rfl | rfl : a = 0 ∨ a = 1 ∨ a = 2 ∨ a = 3 := by omega
  all_goals
    simp only [armB] at h1 h2
    simp only [nearK, armK]
    omega
/-- the last of a knot's arms that are missing -/
def armZ (D : List Bar) (k : Knot) : Nat := if armB k 3 ∈ D then 3 else if armB k 2 ∈ D then 2 else if armB k 1 ∈ D then 1 else 0
def barTo (D : List Bar) (k : Knot) : Nat → Bar
  | 0 => (0, 0, 0)
  | i + 1 => if hasb D (armB k i) then armB k i else barTo D k i
theorem armZ_ok {D : List Bar} {k : Knot} (h : legsAt D k ≠ noLegs) : armZ D k < 4 ∧ armB k (armZ D k) ∈ D ∧ barTo D k 4 = armB k (armZ D k) := by
  obtain ⟨a, ha, hm⟩ := legs_arm.1 h
  simp only [barTo, hasb, decide_eq_true_eq]
  unfold armZ
  by_cases h3 : armB k 3 ∈ D
  · simp [h3]
  · by_cases h2 : armB k 2 ∈ D
    · simp [h3, h2]
    · by_cases h1 : armB k 1 ∈ D
      · simp [h3, h2, h1]
      · have h0 : armB k 0 ∈ D := by
          obtain rfl | rfl | rfl | rfl : a = 0 ∨ a = 1 ∨ a = 2 ∨ a = 3 := by omega
          · exact hm
          · exact absurd hm h1
          · exact absurd hm h2
          · exact absurd hm h3
        simp [h3, h2, h1, h0]
def rwalkL (D : List Bar) (k : Knot) : List Knot := k :: wk D D.length (k, armZ D k)
theorem rwalk_one {D : List Bar} {k : Knot} (h : cnt (legsAt D k) = 1) : rwalkL D k = walkL D k := by
  have : armZ D k = arm0 D k := by
    unfold armZ arm0
    have h' : cnt (decide (armB k 0 ∈ D), decide (armB k 1 ∈ D), decide (armB k 2 ∈ D), decide (armB k 3 ∈ D)) = 1 := h
    by_cases h0 : armB k 0 ∈ D <;> by_cases h1 : armB k 1 ∈ D <;> by_cases h2 : armB k 2 ∈ D <;> by_cases h3 : armB k 3 ∈ D <;> simp [h0, h1, h2, h3, cnt] at h' ⊢
  unfold rwalkL walkL
  rw [this]
theorem own_oneK (W : World) {base : Nat} (hb : base ≤ W.heap.size) (x y : Int) : OwK base (W.alloc (.cells #[.int .i64 x, .int .i64 y] 32)) (.slice (some ⟨W.heap.size, 0, none⟩) 1 1) [(x, y)] :=
  ⟨by simp [kc], .inr ⟨W.heap.size, 1, _, rfl, hb, heap_alloc_new W _, Nat.le_refl _, by simp [maxLen], by simp, by simp [kc]⟩⟩
theorem own_apart {w : World} {base g : Nat} {v a b : Value} {l : List Knot} (ho : OwK base w v l) (hl : 2 ≤ l.length) (hB : Blk w g 32 #[a, b]) : v.ownBlock ≠ some g := by
  rcases ho.2 with ⟨rfl, hn⟩ | ⟨g', cap, cur, rfl, _, hh, hnc, _, hcs, _⟩
  · omega
  · intro e
    obtain rfl : g' = g := by simpa [Value.ownBlock] using e
    unfold Blk at hB
    rw [hh] at hB
    have e2 : cur = #[a, b] := by injection (Option.some.inj hB)
    rw [e2] at hcs
    simp at hcs
    omega
end Go.Proofs.YtpompeancmonbaaGreat

/- A bar put into a list in its place, of the reference, walked; lists of bars together. Conditions: the slices read as lists. -/
namespace Go.Proofs.YtpompeancmonbaaGreat
open Go.RowKit Go.ChangeMaps
set_option maxHeartbeats 4000000
set_option maxRecDepth 100000

section
variable {α : Type} {enc : α → List Value} {sz bytes : Nat} {P : Program} {t e : TypeId} {w : World}
theorem op_app {o : Oper} {a : Act} {K : Act → World → Prop} {Q : Exit → Act → World → Prop} (E : Elem P t e sz bytes) (henc : ∀ x, (enc x).length = sz) (hone : ∀ x, ∀ u ∈ enc x, u.oneCell' = true) (s x : Operand)
    (ho : o.op = .call { callee := .builtin .append, args := #[s, x], argTypes := #[t, t] }) (base : Nat) (v u : Value) (l r : List α) (hs : a.eval s = v) (hx : a.eval x = u) (hown : Own enc sz base e w v l) (hu : Sl enc sz w u r)
    (h63 : l.length + r.length ≤ maxLen) (hb : (l.length + r.length) * bytes ≤ 140737488355328) (hbase : base ≤ w.heap.size)
    (h : ∀ v' w', Own enc sz base e w' v' (l ++ r) → w.grownBy w' v.ownBlock → K (a.put o.dst v') w') : o.wp P a w K Q := by
  obtain ⟨v', w', hr, h2, h3⟩ := run_app E henc hone base o.type v u l r hown hu h63 hb hbase
  unfold Oper.wp
  simp [execOp, ho, resolve, invoke, builtin, hs, hx, hr, Result.andThen]
  exact h v' w' h2 h3
end
theorem opB_app {o : Oper} {a : Act} {K : Act → World → Prop} {Q : Exit → Act → World → Prop} {w : World} {base : Nat} {v u : Value} {l r : List Bar} (hown : OwB base w v l) (hu : SlB w u r) (s x : Operand)
    (ho : o.op = .call { callee := .builtin .append, args := #[s, x], argTypes := #[22, 22] }) (hs : a.eval s = v) (hx : a.eval x = u) (hlen : l.length + r.length ≤ 1000000) (hbase : base ≤ w.heap.size)
    (h : ∀ v' w', OwB base w' v' (l ++ r) → w.grownBy w' v.ownBlock → K (a.put o.dst v') w') : o.wp Tryz.prog a w K Q :=
  op_app bar_elem bc_len bc_one s x ho base v u l r hs hx hown hu (by simp [maxLen]; omega) (by omega) hbase h
theorem opK_app {o : Oper} {a : Act} {K : Act → World → Prop} {Q : Exit → Act → World → Prop} {w : World} {base : Nat} {v u : Value} {l r : List Knot} (hown : OwK base w v l) (hu : SlK w u r) (s x : Operand)
    (ho : o.op = .call { callee := .builtin .append, args := #[s, x], argTypes := #[41, 41] }) (hs : a.eval s = v) (hx : a.eval x = u) (hlen : l.length + r.length ≤ 1000000) (hbase : base ≤ w.heap.size)
    (h : ∀ v' w', OwK base w' v' (l ++ r) → w.grownBy w' v.ownBlock → K (a.put o.dst v') w') : o.wp Tryz.prog a w K Q :=
  op_app knot_elem kc_len kc_one s x ho base v u l r hs hx hown hu (by simp [maxLen]; omega) (by omega) hbase h

theorem Blk.one_bar {w : World} {g : Nat} {x y s : Int} (h : Blk w g 46 #[.int .i64 x, .int .i64 y, .int .i64 s]) : SlB w (.slice (some ⟨g, 0, none⟩) 1 1) [(x, y, s)] := by
  refine ⟨_, 1, rfl, by simp, by simp [maxLen], fun i b hb => ?_⟩
  match i, hb with
  | 0, hb =>
    obtain rfl : (x, y, s) = b := by simpa using hb
    refine ⟨_, 0, rfl, h.lt, fun j u hj => ?_⟩
    rw [h.cell]
    simpa [bc] using hj
theorem Blk.one_knot {w : World} {g : Nat} {x y : Int} (h : Blk w g 32 #[.int .i64 x, .int .i64 y]) : SlK w (.slice (some ⟨g, 0, none⟩) 1 1) [(x, y)] := by
  refine ⟨_, 1, rfl, by simp, by simp [maxLen], fun i b hb => ?_⟩
  match i, hb with
  | 0, hb =>
    obtain rfl : (x, y) = b := by simpa using hb
    refine ⟨_, 0, rfl, h.lt, fun j u hj => ?_⟩
    rw [h.cell]
    simpa [kc] using hj
section
variable {α : Type} {enc : α → List Value} {sz n c : Nat} {w : World} {A : Option Addr} {l : List α}
theorem sl_pre (h : Rd enc sz w A l) {k : Nat} (hk : k ≤ l.length) (hkc : k ≤ c) (hc : c ≤ maxLen) : Sl enc sz w (.slice A k c) (l.take k) :=
  ⟨A, c, by rw [List.length_take, Nat.min_eq_left hk], by rw [List.length_take, Nat.min_eq_left hk]; exact hkc, hc, fun i x hx => h i x (by
    rw [List.getElem?_take] at hx
    split at hx
    · exact hx
    · cases hx)⟩
theorem sl_post (h : Rd enc sz w A l) (hlc : l.length ≤ c) {k : Nat} (hk : k ≤ l.length) (hc : c ≤ maxLen) : Sl enc sz w (.slice (if c = k then A else Option.map (fun x => x.add (k * sz)) A) (l.length - k) (c - k)) (l.drop k) := by
  refine ⟨_, _, by rw [List.length_drop], by rw [List.length_drop]; omega, by omega, fun i x hx => ?_⟩
  rw [List.getElem?_drop] at hx
  have hlt := (List.getElem?_eq_some_iff.1 hx).1
  obtain ⟨b, off, rfl, hb, hc2⟩ := h (k + i) x hx
  rw [if_neg (by omega)]
  refine ⟨b, off + k * sz, ?_, hb, fun j u hu => ?_⟩
  · simp only [Option.map_some, Addr.add]
    split
    · rename_i h0; rw [h0, Nat.add_zero]
    · rfl
  · have := hc2 j u hu
    rwa [show off + (k + i) * sz + j = off + k * sz + i * sz + j by rw [Nat.add_mul]; omega] at this
theorem sl_postS {b off : Nat} (h : Rd enc sz w (some ⟨b, off, none⟩) l) (hlc : l.length ≤ c) {k : Nat} (hc : c ≤ maxLen) : Sl enc sz w (.slice (some ⟨b, off + k * sz, none⟩) (l.length - k) (c - k)) (l.drop k) := by
  refine ⟨_, _, by rw [List.length_drop], by rw [List.length_drop]; omega, by omega, fun i x hx => ?_⟩
  rw [List.getElem?_drop] at hx
  obtain ⟨b', off', e', hb, hc2⟩ := h (k + i) x hx
  obtain ⟨rfl, rfl⟩ : b = b' ∧ off = off' := by simpa using e'
  refine ⟨b, off + k * sz, rfl, hb, fun j u hu => ?_⟩
  have := hc2 j u hu
  rwa [show off + (k + i) * sz + j = off + k * sz + i * sz + j by rw [Nat.add_mul]; omega] at this
end

/-- a bar put into a list in its place -/
def insB : List Bar → Bar → List Bar
  | [], b => [b]
  | x :: r, b => if barLt x.1 x.2.1 x.2.2 b.1 b.2.1 b.2.2 then x :: insB r b else b :: x :: r
theorem insB_drop {l : List Bar} {b : Bar} {k : Nat} (hk : k < l.length) : insB (l.drop k) b = if barLt l[k].1 l[k].2.1 l[k].2.2 b.1 b.2.1 b.2.2 then l[k] :: insB (l.drop (k + 1)) b else b :: l.drop k := by
  rw [List.drop_eq_getElem_cons hk, insB]
end Go.Proofs.YtpompeancmonbaaGreat

/- The knots of a hole, of the reference, walked. Conditions: bars within bounds. -/
namespace Go.Proofs.YtpompeancmonbaaGreat
open Go.RowKit Go.ChangeMaps
set_option maxHeartbeats 4000000
set_option maxRecDepth 100000

theorem insK_drop {l : List Knot} {e : Knot} {k : Nat} (hk : k < l.length) : insK (l.drop k) e = if kltP l[k] e then l[k] :: insK (l.drop (k + 1)) e else if l[k] = e then l.drop k else e :: l.drop k := by
  rw [List.drop_eq_getElem_cons hk, insK]
theorem holeIn_take {D : List Bar} {o : List Knot} {i : Nat} (hi : i < D.length) : holeIn o (D.take (i + 1)) = insK (insK (holeIn o (D.take i)) (lowK D[i])) (uppK D[i]) := by
  unfold holeIn
  rw [List.take_succ_eq_append_getElem hi, List.foldl_append]; rfl
theorem mem_k {i : Nat} {l : List Nat} (h : l.contains i = true) : i ∈ l := by simpa using h
def endK (b : Bar) : Nat → Knot
  | 0 => lowK b
  | _ => uppK b
def insTo (o : List Knot) (b : Bar) : Nat → List Knot
  | 0 => o
  | n + 1 => insK (insTo o b n) (endK b n)
theorem insTo_len (o : List Knot) (b : Bar) : ∀ n, (insTo o b n).length ≤ o.length + n
  | 0 => Nat.le_refl _
  | n + 1 => by
    have := insTo_len o b n
    have h := insK_len (endK b n) (insTo o b n)
    simp only [insTo]
    omega
theorem end_cells {W : World} {g : Nat} {t : TypeId} {x y s : Int} (h : Blk W g t #[.int .i64 x, .int .i64 y, .int .i64 (x + s), .int .i64 (y + 1)]) {n : Nat} (hn : n < 2) :
    W.cell? ⟨g, n * 2, none⟩ = some (.int .i64 (endK (x, y, s) n).1) ∧ W.cell? ⟨g, n * 2 + 1, none⟩ = some (.int .i64 (endK (x, y, s) n).2) := by
  rw [h.cell, h.cell]
  obtain rfl | rfl : n = 0 ∨ n = 1 := by omega
  · exact ⟨rfl, rfl⟩
  · exact ⟨rfl, rfl⟩
def holeF (x y s : Int) (n₀ : Nat) (i : Nat) (v : Value) (W : World) : Prop :=
  (i = 5 → v = .agg #[.int .i64 x, .int .i64 y]) ∧ (i = 11 → v = .agg #[.int .i64 (x + s), .int .i64 (y + 1)]) ∧
  (i = 12 → v = .agg #[.int .i64 x, .int .i64 y, .int .i64 (x + s), .int .i64 (y + 1)]) ∧
  (i = 13 → ∃ g, v = .pointer (some ⟨g, 0, none⟩) ∧ n₀ ≤ g ∧ Blk W g 115 #[.int .i64 0, .int .i64 0, .int .i64 0, .int .i64 0])
theorem holeF_st (x y s : Int) (n₀ : Nat) : ∀ i v W W', holeF x y s n₀ i v W → Below W.heap.size W W' → holeF x y s n₀ i v W' := fun i v W W' h hb =>
  ⟨h.1, h.2.1, h.2.2.1, fun hi => by obtain ⟨g, h1, h0, h2⟩ := h.2.2.2 hi; exact ⟨g, h1, h0, h2.below hb⟩⟩
end Go.Proofs.YtpompeancmonbaaGreat

/- The odd knots, the run and whether a torn net is ready, of the reference, walked. Conditions: bars within bounds. -/
namespace Go.Proofs.YtpompeancmonbaaGreat
open Go.RowKit Go.ChangeMaps
set_option maxHeartbeats 4000000
set_option maxRecDepth 100000

theorem hole_near {D : List Bar} (hk : ∀ b ∈ D, BarOk b) : ∀ k ∈ holeK D, nearK k := fun k h => knot_near hk ((holeK_mem (fun b hb => (hk b hb).2.2) k).1 h)
theorem hole_len {D : List Bar} : (holeK D).length ≤ 2 * D.length := by
  have := holeIn_len D []
  unfold holeK
  simp only [List.length_nil] at this
  omega
theorem oddK_len {D : List Bar} : (oddK D).length ≤ 2 * D.length := Nat.le_trans (List.length_filter_le _ _) hole_len
theorem odd_near {D : List Bar} (hk : ∀ b ∈ D, BarOk b) : ∀ k ∈ oddK D, nearK k ∧ oddL (legsAt D k) = true := fun k h => by
  obtain ⟨h1, h2⟩ := List.mem_filter.1 h
  exact ⟨hole_near hk k h1, h2⟩
theorem odd_legs {D : List Bar} {k : Knot} (h : oddL (legsAt D k) = true) : legsAt D k ≠ noLegs := odd_ne (by unfold evn; rw [h]; simp)
theorem wk_near {D : List Bar} (hk : ∀ b ∈ D, BarOk b) : ∀ (n : Nat) (d : Dart), d.2 < 4 → barD d ∈ D → ∀ x ∈ wk D n d, nearK x
  | 0, d, _, _, x, h => by simp [wk] at h
  | n + 1, d, ha, hb, x, h => by
    unfold wk at h
    rcases List.mem_cons.1 h with rfl | h
    · exact (dart_near ha (hk _ hb)).2
    · cases ho : oddL (legsAt D (armK d.1 d.2)) with
      | true => rw [ho] at h; simp at h
      | false =>
        rw [ho, if_neg (by simp)] at h
        obtain ⟨h1, h2, _⟩ := step_ok ha hb ho
        exact wk_near hk n _ h1 h2 x h
theorem wk_len (D : List Bar) : ∀ (n : Nat) (d : Dart), (wk D n d).length ≤ n
  | 0, d => by simp [wk]
  | n + 1, d => by
    unfold wk
    have := wk_len D n (nxt D d)
    split
    · simp
    · simp only [List.length_cons]; omega
theorem rwalk_near {D : List Bar} (hk : ∀ b ∈ D, BarOk b) {k : Knot} (h : legsAt D k ≠ noLegs) : ∀ x ∈ rwalkL D k, nearK x := fun x hx => by
  obtain ⟨h1, h2, _⟩ := armZ_ok h
  rcases List.mem_cons.1 hx with rfl | hx
  · exact (dart_near h1 (hk _ h2)).1
  · exact wk_near hk _ (k, armZ D k) h1 h2 x hx
theorem rwalk_len (D : List Bar) (k : Knot) : (rwalkL D k).length ≤ D.length + 1 := by
  have := wk_len D D.length (k, armZ D k)
  simp only [rwalkL, List.length_cons]
  omega
theorem filter_take {α : Type} (p : α → Bool) {l : List α} {k : Nat} (hk : k < l.length) : (l.take (k + 1)).filter p = (l.take k).filter p ++ if p l[k] then [l[k]] else [] := by
  rw [List.take_succ_eq_append_getElem hk, List.filter_append]
  cases h : p l[k] <;> simp [h]
theorem hodd_int {D : List Bar} {k : Knot} {q : Bool} (hq : oddL (legsAt D k) = q) : (((missN D k : Nat) : Int) % 2 == 1) = q := by
  rw [← hq]
  unfold oddL missN
  rw [Bool.eq_iff_iff]
  simp
  omega
end Go.Proofs.YtpompeancmonbaaGreat

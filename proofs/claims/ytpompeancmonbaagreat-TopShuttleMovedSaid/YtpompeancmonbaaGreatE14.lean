/- The odd knots of a hole, by a range over its knots, walked. Conditions: the hole's bars have sides 1 or -1. -/
import Derived.Test.YtpompeancmonbaaGreatE13
namespace Go.Proofs.YtpompeancmonbaaGreat
open Go.RowKit Go.ChangeMaps
set_option maxHeartbeats 4000000
set_option maxRecDepth 100000
attribute [local go_sem] Oper.semAt_some

/-! ## an append within a round; what a round's invariant abides -/
section
variable {F : Fence} {n : Nat} {α : Type} {enc : α → List Value} {sz : Nat} {e : TypeId} {w : World} {P : Program}
theorem wpListIn_app {bytes : Nat} {t : TypeId} {ops : Array Oper} {rest : List Oper} {o : Oper} {a : Act} {Q : Exit → Act → World → Prop} (hgd : o.guard = none) (E : Elem P t e sz bytes) (henc : ∀ x, (enc x).length = sz) (hone : ∀ x, ∀ u ∈ enc x, u.oneCell' = true) (s x : Operand)
    (ho : o.op = .call { callee := .builtin .append, args := #[s, x], argTypes := #[t, t] }) (base : Nat) (v u : Value) (l r : List α) (hs : a.eval s = v) (hx : a.eval x = u) (hown : Own enc sz base e w v l) (hu : Sl enc sz w u r)
    (h63 : l.length + r.length ≤ maxLen) (hb : (l.length + r.length) * bytes ≤ 140737488355328) (hbase : base ≤ w.heap.size)
    (h : ∀ v' w', Own enc sz base e w' v' (l ++ r) → w.grownBy w' v.ownBlock → wpListIn F n P ops Q rest (a.put o.dst v') w') : wpListIn F n P ops Q (o :: rest) a w := by
  refine wpListIn_plain hgd fun K hK' => ?_
  obtain ⟨v', w', hr, h2, h3⟩ := run_app E henc hone base o.type v u l r hown hu h63 hb hbase
  unfold Oper.wpIn
  refine ⟨by simp [Oper.about, ho, resolve, Target.leads, Sem.run_pure], ?_⟩
  rw [Oper.semAt_plain F _ _ (by rw [ho]; intro c hc'; cases hc')]
  simp [execOp, ho, resolve, invoke, builtin, hs, hx, hr, Result.andThen]
  exact hK' _ _ (h v' w' h2 h3)
theorem nc_blk {B : Nat} {row : Option Nat} {g : Nat} {t : TypeId} {cs : Array Value} (hB : Blk w g t cs) (hr : ∀ r, row = some r → B ≤ r ∧ ∃ o : Obj, w.heap[r]? = some o ∧ o.isCells = false) : some g ≠ row := fun e => by
  obtain ⟨_, o, ho, hc⟩ := hr g e.symm
  unfold Blk at hB
  rw [hB] at ho
  cases ho
  cases hc
theorem nc_own {B base : Nat} {row : Option Nat} {v : Value} {l : List α} (ho : Own enc sz base e w v l) (hr : ∀ r, row = some r → B ≤ r ∧ ∃ o : Obj, w.heap[r]? = some o ∧ o.isCells = false) : v.ownBlock = none ∨ v.ownBlock ≠ row := by
  rcases ho.2 with ⟨rfl, _⟩ | ⟨g, cap, cur, rfl, _, hh, _⟩
  · exact .inl rfl
  · refine .inr fun e => ?_
    obtain ⟨_, o, ho, hc⟩ := hr g (by simpa [Value.ownBlock] using e.symm)
    rw [hh] at ho
    cases ho
    cases hc
theorem keeps_grown {B base : Nat} {w' : World} {v : Value} {l : List α} (ho : Own enc sz base e w v l) (hg : w.grownBy w' v.ownBlock) : KeepsFrom B w w' :=
  ⟨hg.size, fun k o _ hk hc => (hg.block k (Array.getElem?_eq_some_iff.1 hk).1 (fun e => by
    rcases ho.2 with ⟨rfl, _⟩ | ⟨g, cap, cur, rfl, _, hh, _⟩
    · cases e
    · have e' : k = g := by simpa [Value.ownBlock] using e
      rw [e', hh] at hk
      cases hk
      cases hc)).trans hk⟩
theorem keeps_set {B : Nat} {g : Nat} {t : TypeId} {cs : Array Value} (hB : Blk w g t cs) (i : Nat) (u : Value) : KeepsFrom B w (w.setCell ⟨g, i, none⟩ u) :=
  ⟨by simp [World.setCell], fun k o _ hk hc => (Below.heap_setCell w ⟨g, i, none⟩ u k (fun e => by
    have e' : k = g := e
    unfold Blk at hB
    rw [e', hB] at hk
    cases hk
    cases hc)).trans hk⟩
end
theorem wpListIn_appK1 {F : Fence} {n : Nat} {ops : Array Oper} {rest : List Oper} {o : Oper} {a : Act} {Q : Exit → Act → World → Prop} {base : Nat} {W : World} {v : Value} {X Y : Int} {l : List Knot} (hown : OwK base W v l) {g : Nat} (hgd : o.guard = none) (s x : Operand)
    (ho : o.op = .call { callee := .builtin .append, args := #[s, x], argTypes := #[41, 41] })
    (hs : a.eval s = v) (hx : a.eval x = .slice (some ⟨g, 0, none⟩) 1 1) (hg : W.heap.size = g) (hlen : l.length ≤ 1000000) (hbase : base ≤ W.heap.size)
    (h : ∀ v' w', OwK base w' v' (l ++ [(X, Y)]) → (W.alloc (.cells #[.int .i64 X, .int .i64 Y] 32)).grownBy w' v.ownBlock → wpListIn F n Tryz.prog ops Q rest (a.put o.dst v') w') :
    wpListIn F n Tryz.prog ops Q (o :: rest) a (W.alloc (.cells #[.int .i64 X, .int .i64 Y] 32)) := by
  subst hg
  exact wpListIn_app hgd knot_elem kc_len kc_one s x ho base v _ l [(X, Y)] hs hx (hown.alloc _) (Sl.one_knot W X Y) (by simp [maxLen]; omega) (by simp; omega) (by simp; omega) h

theorem Blk.putDef {W : World} {g D' : Nat} {t : TypeId} {cs : Array Value} {ds : Option (List Deferred)} (hB : Blk W g t cs) (hK : W.heap[D']? = some (.deferred ds)) (o : Obj) : Blk (W.putObj D' o) g t cs :=
  hB.grown (grownBy_putObj' W D' o) (fun e => by
    have e' : g = D' := by simpa using e
    unfold Blk at hB
    rw [e', hK] at hB
    cases hB)
theorem below_putDef {w W : World} {D' : Nat} {ds : Option (List Deferred)} (hb : Below w.heap.size w W) (hK : W.heap[D']? = some (.deferred ds)) (hD : w.heap.size ≤ D') (o : Obj) : Below w.heap.size w (W.putObj D' o) :=
  hb.trans (belowK_b (w := w) (Nat.le_refl _) W D' _ _ hD hK rfl rfl)
/-- the boxes of a round over a hole's knots -/
structure Bx (D : List Bar) (x : Knot) (n₀ Bk Bl : Nat) (W : World) : Prop where
  k : Blk W Bk 32 #[.int .i64 x.1, .int .i64 x.2]
  l : Blk W Bl 106 #[.bool (legsAt D x).1, .bool (legsAt D x).2.1, .bool (legsAt D x).2.2.1, .bool (legsAt D x).2.2.2]
  hk : n₀ ≤ Bk
  hl : n₀ ≤ Bl
theorem Bx.own {D : List Bar} {x : Knot} {n₀ Bk Bl B : Nat} : OwnFrom B (fun (_ : Unit) W => Bx D x n₀ Bk Bl W) := fun _ _ _ _ hs hg hr =>
  ⟨hs.k.grown hg (nc_blk hs.k hr), hs.l.grown hg (nc_blk hs.l hr), hs.hk, hs.hl⟩
theorem hodd_any (h rb rk : Nat) (D : List Bar) (w : World) (H : HoleAt w h rb rk D) (hs : ∀ b ∈ D, Sided b) (hlen : D.length ≤ 100000) :
    Calls Tryz.prog 89 #[.pointer (some ⟨h, 0, none⟩)] w (RK w (oddK D)) := by
  refine (callsIn_wide (n := 6)).1 ?_
  refine callsIn_of_wp_marks Tryz.func89 rfl trivial ?_ rfl
  simp only [Tryz.ntmps89, List.size_toArray, List.length_cons, List.length_nil, Nat.reduceAdd, Nat.reduceSub, Array.replicate_succ, Array.replicate_zero, List.push_toArray, List.append_toArray, List.nil_append, List.cons_append]
  gi_wp2_with (refine ⟨trivial, ?_⟩; gi_at_call 54; refine (callsIn_wide.2 (all_any h rb rk D _ (H.below (bl_alloc bl_refl _)) hs hlen)).mono ?_; rintro e w1 ⟨bh, bl, v, rfl, hbh, hbl, hBh, hBl, hv, hb1⟩)
  have hw1 : w.heap.size + 1 ≤ w1.heap.size := by have := hb1.size; simpa using this
  simp only [World.size_alloc] at hbh hbl hv
  have hHlt := H.blk.lt
  have hrblt : rb < w.heap.size := by obtain ⟨_, _, hm, _⟩ := H.bars; exact hm.lt
  have hrklt : rk < w.heap.size := by obtain ⟨_, _, hm, _⟩ := H.knots; exact hm.lt
  have hO1 := (Blk.new w 41 #[.slice none 0 0]).below hb1
  have hbw1 : Below w.heap.size w w1 := bl_a hb1
  have hH1 := (H.below (bl_alloc bl_refl (.cells #[.slice none 0 0] 41))).below hb1
  have hN := holeK_len D
  refine wpIn_rangeFunc_ownH rfl (by omega) (gf := 102) (lb := #[.pointer (some ⟨bl, 0, none⟩), .pointer (some ⟨bh, 0, none⟩)]) rfl trivial (enters_of Tryz.func102 (by kernel_rfl) rfl)
    (all_stops 5 (by omega) [w.heap.size] bl bh h rb rk (w.heap.size + 1) D v w1 (by simp; omega) (by simp; omega) (by simp; omega) (by simp; omega) (by simp; omega) (by simp) hBl hBh hH1 hv) keepB_t (keepB_b (Nat.le_refl _)) (Below.refl _ _) (fun _ => rfl)
    (fun pre W => (∃ u, Blk W w.heap.size 41 #[u] ∧ OwK w1.heap.size W u (pre.filter fun k => oddL (legsAt D k))) ∧ Below w.heap.size w W ∧ w1.heap.size ≤ W.heap.size)
    (fun _ _ _ => False)
    (fun _ W W' row hs hg hr => by
      obtain ⟨⟨u, h1, h2⟩, h3, h4⟩ := hs
      exact ⟨⟨u, h1.grown hg (nc_blk h1 hr), h2.kept hg (nc_own h2 hr)⟩, bl_grown hg h3 (fun k e => by have := (hr k e).1; omega), Nat.le_trans h4 hg.size⟩)
    (fun _ _ _ _ _ hs _ _ => hs)
    ⟨⟨_, hO1, Own.nil_⟩, hbw1, Nat.le_refl _⟩
    (fun x a' W => ∃ Bk Bl, Bx D x w1.heap.size Bk Bl W ∧ a' = { tmps := #[.pointer (some ⟨h, 0, none⟩), undef, .slice none 0 0, .pointer (some ⟨w.heap.size, 0, none⟩), .pointer (some ⟨Bk, 0, none⟩), .pointer (some ⟨Bl, 0, none⟩), .pointer (some ⟨h, 0, none⟩), .func (.func 102) #[] #[.pointer (some ⟨bl, 0, none⟩), .pointer (some ⟨bh, 0, none⟩)], kk x, lv (legsAt D x), undef, undef, undef, undef, undef, undef, undef], defers := [] })
    (fun x a' s W W' row hs hg hr => by
      obtain ⟨Bk, Bl, hX, rfl⟩ := hs
      exact ⟨Bk, Bl, Bx.own s W W' row hX hg hr, rfl⟩) ?assign ?body ?done ?stop
  case assign =>
    rintro l pre x W K ⟨⟨u, hu1, hu2⟩, hbw, hsz⟩ hK
    unfold encs kk lv
    gi_wp2
    have hb2 : Below W.heap.size W ((W.alloc (.cells #[.int .i64 x.1, .int .i64 x.2] 32)).alloc (.cells #[.bool (legsAt D x).1, .bool (legsAt D x).2.1, .bool (legsAt D x).2.2.1, .bool (legsAt D x).2.2.2] 106)) := by (repeat (first | exact bl_refl | assumption | (apply bl_then; assumption) | refine bl_alloc ?_ _ | refine bl_drew ?_ | refine bl_drewN ?_ _))
    exact hK _ _ (keeps_of_below hb2) (KeepB.of_below hb2 hsz) ⟨⟨u, hu1.below hb2, hu2.below hb2⟩, bl_then hb2 hbw, Nat.le_trans hsz hb2.size⟩
      ⟨W.heap.size, W.heap.size + 1, ⟨(Blk.new W _ _).alloc _, Blk.new1 W _ _ _, hsz, by omega⟩, rfl⟩
  case body =>
    rintro l pre x a' W _ _ ⟨⟨u, hu1, hu2⟩, hbw, hsz⟩ ⟨Bk, Bl, hX, rfl⟩ hlt
    have hpl : (pre.filter fun k => oddL (legsAt D k)).length ≤ pre.length := List.length_filter_le _ _
    have fk := hX.k.facts
    have fl := hX.l.facts
    have fo := hu1.facts
    obtain ⟨g, hg⟩ : ∃ g, oddL ((legsAt D x).1, (legsAt D x).2.1, (legsAt D x).2.2.1, (legsAt D x).2.2.2) = g := ⟨_, rfl⟩
    have hg' : oddL (legsAt D x) = g := hg
    have hT : Hid ((pre ++ [x]).filter (fun k => oddL (legsAt D k)) = pre.filter (fun k => oddL (legsAt D k)) ++ if g then [x] else []) := by
      unfold Hid
      rw [List.filter_append, ← hg']
      cases h : oddL (legsAt D x) <;> simp [h]
    unfold kk lv
    cases g
    · gi_wp2_with (refine ⟨trivial, ?_⟩; gi_at_call 125; refine (CallsIn.inRound l (callsIn_wide.2 (odd_any _ _ _ _ _))).mono ?_; rintro e w2 ⟨rfl, hb2⟩)
      exact ⟨keeps_of_below hb2, KeepB.of_below hb2 hsz, ⟨u, hu1.below hb2, by rw [hT.out]; simpa using hu2.below hb2⟩, bl_then hb2 hbw, Nat.le_trans hsz hb2.size⟩
    · gi_wp2_with (first | (refine ⟨trivial, ?_⟩; gi_at_call 125; refine (CallsIn.inRound l (callsIn_wide.2 (odd_any _ _ _ _ _))).mono ?_; rintro e w2 ⟨rfl, hb2⟩; have hu1' := hu1.below hb2; have hu2' := hu2.below hb2; have hk' := hX.k.below hb2; have fk' := hk'.facts; have fo' := hu1'.facts) | (gi_at_builtin; refine wpListIn_appK1 hu2' rfl _ _ rfl rfl rfl rfl (by omega) (Nat.le_trans hsz hb2.size) ?_; intro v3 w3 hu3 hgr3; obtain ⟨A3, c3, rfl⟩ := hu3.shape; have hu13 := (hu1'.alloc (.cells #[.int .i64 x.1, .int .i64 x.2] 32)).grown hgr3 (hu2'.ne_blk hu1' (by decide)); have fo3 := hu13.facts))
      simp only [List.length_append, List.length_cons, List.length_nil, Nat.zero_add] at hu3
      have hal : Below w2.heap.size w2 (w2.alloc (.cells #[.int .i64 x.1, .int .i64 x.2] 32)) := bl_alloc bl_refl _
      have hsz2 : w1.heap.size ≤ (w2.alloc (.cells #[.int .i64 x.1, .int .i64 x.2] 32)).heap.size := Nat.le_trans (Nat.le_trans hsz hb2.size) hal.size
      have hbw3 : Below w.heap.size w w3 := bl_grown hgr3 (bl_then hal (bl_then hb2 hbw)) (fun k e => by have := (hu2'.lt k e).1; omega)
      exact ⟨(keeps_of_below hb2).trans ((keeps_of_below hal).trans ((keeps_grown (hu2'.alloc _) hgr3).trans (keeps_set hu13 0 _))),
        (KeepB.of_below hb2 hsz).trans ((KeepB.of_below hal (Nat.le_trans hsz hb2.size)).trans ((KeepB.of_grown hgr3 hsz2 (fun k e => (hu2'.lt k e).1)).trans (KeepB.of_set (by simp)))),
        ⟨_, hu13.set_ 0 _, by rw [hT.out]; exact hu3.set (Ne.symm (hu3.ne_blk hu13 (by decide))) _⟩, bl_set hbw3 (by simp) _, Nat.le_trans hsz2 (Nat.le_trans hgr3.size (by simp [World.setCell]))⟩
  case done =>
    rintro D' ys W hD rfl ⟨⟨u, hu1, hu2⟩, hbw, hsz⟩ hK
    have fo := hu1.facts
    gi_wp2
    refine ⟨by simp, .inl ⟨_, _, rfl, run_takeDeferred hK, ?_⟩⟩
    exact ⟨_, results_tmp rfl _ _ _, u, rfl, Own.base_mono (ownsRow_putObj hu2 _ hK rfl) (by omega), hbw.trans (belowK_b (w := w) (Nat.le_refl _) W D' _ _ (by omega) hK rfl rfl)⟩
  case stop =>
    rintro D' c pre W _ _ h _
    exact h.elim
end Go.Proofs.YtpompeancmonbaaGreat

/- The legs of a knot as a list, and the first that is missing, walked. Conditions: none. -/
namespace Go.Proofs.YtpompeancmonbaaGreat
open Go.RowKit Go.ChangeMaps
set_option maxHeartbeats 2000000
set_option maxRecDepth 100000

/-- the first missing arm -/
def fstL (l : Legs) : Nat := if l.1 = true then 0 else if l.2.1 = true then 1 else if l.2.2.1 = true then 2 else 3
theorem fstL_hit {l : Legs} {k : Nat} (hk : k < 4) (h : lget l k = true) (hb : ∀ j, j < k → lget l j = false) : fstL l = k := by
  obtain rfl | rfl | rfl | rfl : k = 0 ∨ k = 1 ∨ k = 2 ∨ k = 3 := by omega
  · simp [lget] at h; simp [fstL, h]
  · have h0 := hb 0 (by omega)
    simp [lget] at h h0; simp [fstL, h, h0]
  · have h0 := hb 0 (by omega)
    have h1 := hb 1 (by omega)
    simp [lget] at h h0 h1; simp [fstL, h, h0, h1]
  · have h0 := hb 0 (by omega)
    have h1 := hb 1 (by omega)
    have h2 := hb 2 (by omega)
    simp [lget] at h h0 h1 h2; simp [fstL, h0, h1, h2]
theorem fstL_arm (D : List Bar) (k : Knot) : fstL (legsAt D k) = arm0 D k := by
  unfold fstL arm0 legsAt
  simp only [decide_eq_true_eq]
theorem fstL_lt (l : Legs) : fstL l < 4 := by
  unfold fstL
  repeat' split
  all_goals omega

theorem index_any (g : Nat) (L : Legs) (w : World) (hB : Blk w g 106 (lcs L)) (hne : L ≠ noLegs) :
    Calls Tryz.prog 127 #[.slice (some ⟨g, 0, none⟩) 4 4, .bool true] w (RV w (.int .i64 (fstL L))) := by
  have HN := Lib.hid hne
  clear hne
  have fB := hB.facts
  go_enter Tryz.func127, Tryz.ntmps127
  go_wp2
  go_loop [8] (fun i => ∃ k : Nat, k ≤ 4 ∧ i = .int .i64 k ∧ Hid (∀ j, j < k → lget L j = false)) (fun i => 4 - (intOf i).toNat)
  case atStart => exact ⟨0, by omega, rfl, fun j hj => absurd hj (by omega)⟩
  case round =>
    obtain ⟨k, hk, rfl, H⟩ := hrel
    by_cases hlt : k < 4
    · have hla := lcs_get (l := L) hlt
      obtain ⟨q, hq⟩ : ∃ q, lget L k = q := ⟨_, rfl⟩
      rw [hq] at hla
      have HQ := Lib.hid hq
      clear hq
      cases q
      · go_wp2
        go_round
        case rel => exact ⟨k + 1, by omega, by go_num, fun j hj => by
          by_cases e : j = k
          · rw [e]; exact HQ.out
          · exact H.out j (by omega)⟩
        case measure => simp [intOf]; omega
      · have hf := Lib.hid (fstL_hit hlt HQ.out H.out)
        go_wp2
        go_ret
        exact ⟨ret_int (by rw [hf.out]), by (repeat (first | exact bl_refl | assumption | (apply bl_then; assumption) | refine bl_alloc ?_ _ | refine bl_drew ?_ | refine bl_drewN ?_ _))⟩
    · exfalso
      apply HN.out
      have h := H.out
      obtain ⟨a, b, c, d⟩ := L
      have h0 := h 0 (by omega)
      have h1 := h 1 (by omega)
      have h2 := h 2 (by omega)
      have h3 := h 3 (by omega)
      simp [lget] at h0 h1 h2 h3
      simp [h0, h1, h2, h3, noLegs]

theorem legsOf_any (h rb rk : Nat) (D : List Bar) (x y : Int) (w : World) (H : HoleAt w h rb rk D) :
    Calls Tryz.prog 128 #[.pointer (some ⟨h, 0, none⟩), .agg #[.int .i64 x, .int .i64 y]] w
      fun e w' => ∃ g, e = .returned (.slice (some ⟨g, 0, none⟩) 4 4) ∧ w.heap.size ≤ g ∧ Blk w' g 106 (lcs (legsAt D (x, y))) ∧ Below w.heap.size w w' := by
  obtain ⟨mk, ck, hm, hok, gk⟩ := H.knots
  obtain ⟨L, hL⟩ : ∃ L, legsAt D (x, y) = L := ⟨_, rfl⟩
  have hm1 := hm.alloc (.cells #[.int .i64 x, .int .i64 y] 32)
  have hlook : ∀ g : Bel (w.alloc (.cells #[.int .i64 x, .int .i64 y] 32)).heap.size (w.alloc (.cells #[.int .i64 x, .int .i64 y] 32)),
      (Instr.lookup 120 (.map (some rk)) (.agg #[.int .i64 x, .int .i64 y]) false).run Tryz.prog g.val = .ok (.agg #[.bool L.1, .bool L.2.1, .bool L.2.2.1, .bool L.2.2.2]) g.val := fun g => by
    rw [look_legs (hm1.below g.below) x y, gk (x, y), legsO_getD, hL]; rfl
  rw [hL]
  have fH := H.blk.facts
  clear hm1 hm hok gk hL
  go_enter Tryz.func128, Tryz.ntmps128
  go_wp2
  refine wp_region_ords [0, 1, 2, 3, 4, 5] [(6, false)] [7] (by kernel_rfl) (by kernel_rfl) (fun d _ _ _ _ h => by cases d <;> exact h) ?_
  simp only [List.map_cons, List.map_nil, List.getD_cons_zero, List.getD_cons_succ]
  repeat (go_big_quiet_step (fail))
  refine wpQuiet_nil ?_
  clear hlook
  refine wpMid_run rfl (fun K hK => ?_)
  go_simp
  refine hK _ _ (by (repeat (first | exact bl_refl | assumption | (apply bl_then; assumption) | refine bl_alloc ?_ _ | refine bl_drew ?_ | refine bl_drewN ?_ _))) ?_
  clear hK K
  refine wpMid_nil ?_
  go_wp2
  go_ret
  exact ⟨_, rfl, by simp, by simpa [lcs] using (Blk.new (w.alloc (.cells #[.int .i64 x, .int .i64 y] 32)) 106 (lcs L)).drew, by (repeat (first | exact bl_refl | assumption | (apply bl_then; assumption) | refine bl_alloc ?_ _ | refine bl_drew ?_ | refine bl_drewN ?_ _))⟩
end Go.Proofs.YtpompeancmonbaaGreat

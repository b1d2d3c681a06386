/- Which kind of a knot comes first, of the program, walked. Conditions: the kinds' list at its block, the arms at theirs. -/
import Derived.Test.YthcnngoaijgnoaaGreatK08
import Derived.Test.YthcnngoaijgnoaaGreatK05
namespace Go.Proofs.YthcnngoaijgnoaaGreat
open Go.RowKit Go.ChangeMaps
set_option maxHeartbeats 4000000
set_option maxRecDepth 100000

def LegsAt (w : World) (g : Nat) (a b c d : Bool) : Prop := Blk w g 107 #[.bool a, .bool b, .bool c, .bool d]
theorem first_n (s : Value) (a b c d : Bool) (n : Int) (p g : Nat) (w : World) (h : Blk w p 3 #[.int .i64 n]) (hg : LegsAt w g a b c d) :
    Calls Tryz.prog 95 #[.agg #[s, .func (.func 137) #[] #[.pointer (some ⟨p, 0, none⟩)]], .pointer (some ⟨g, 0, none⟩)] w (RV w (.bool (((cnt (a, b, c, d) : Nat) : Int) == n))) := by
  unfold LegsAt at hg
  have hB := Blk.new w 132 #[s, .func (.func 137) #[] #[.pointer (some ⟨p, 0, none⟩)]]
  have fB := hB.facts
  have h1 := h.alloc (.cells #[s, .func (.func 137) #[] #[.pointer (some ⟨p, 0, none⟩)]] 132)
  have g1 := hg.alloc (.cells #[s, .func (.func 137) #[] #[.pointer (some ⟨p, 0, none⟩)]] 132)
  have f1 := g1.facts
  go_enter Tryz.func95, Tryz.ntmps95
  go_wp2_with (go_at_call 137; refine (k137_any a b c d n p _ h1).mono ?_; rintro e w1 ⟨rfl, hb1⟩)
  go_ret
  exact ⟨rfl, by (repeat (first | exact bl_refl | assumption | (apply bl_then; assumption) | refine bl_alloc ?_ _ | refine bl_drew ?_ | refine bl_drewN ?_ _))⟩
theorem first_s (s : Value) (a b c d : Bool) (g : Nat) (w : World) (hg : LegsAt w g a b c d) :
    Calls Tryz.prog 95 #[.agg #[s, .func (.func 138) #[] #[]], .pointer (some ⟨g, 0, none⟩)] w (RV w (.bool (a == c && b == d))) := by
  unfold LegsAt at hg
  have hB := Blk.new w 132 #[s, .func (.func 138) #[] #[]]
  have fB := hB.facts
  have g1 := hg.alloc (.cells #[s, .func (.func 138) #[] #[]] 132)
  have f1 := g1.facts
  go_enter Tryz.func95, Tryz.ntmps95
  go_wp2_with (go_at_call 138; refine (k138_any a b c d _).mono ?_; rintro e w1 ⟨rfl, hb1⟩)
  go_ret
  exact ⟨rfl, by (repeat (first | exact bl_refl | assumption | (apply bl_then; assumption) | refine bl_alloc ?_ _ | refine bl_drew ?_ | refine bl_drewN ?_ _))⟩
theorem first_p (s : Value) (a b c d : Bool) (g : Nat) (w : World) (hg : LegsAt w g a b c d) :
    Calls Tryz.prog 95 #[.agg #[s, .func (.func 139) #[] #[]], .pointer (some ⟨g, 0, none⟩)] w (RV w (.bool (a == b && c == d))) := by
  unfold LegsAt at hg
  have hB := Blk.new w 132 #[s, .func (.func 139) #[] #[]]
  have fB := hB.facts
  have g1 := hg.alloc (.cells #[s, .func (.func 139) #[] #[]] 132)
  have f1 := g1.facts
  go_enter Tryz.func95, Tryz.ntmps95
  go_wp2_with (go_at_call 139; refine (k139_any a b c d _).mono ?_; rintro e w1 ⟨rfl, hb1⟩)
  go_ret
  exact ⟨rfl, by (repeat (first | exact bl_refl | assumption | (apply bl_then; assumption) | refine bl_alloc ?_ _ | refine bl_drew ?_ | refine bl_drewN ?_ _))⟩
theorem holds_eq (a b c d : Bool) : (((cnt (a, b, c, d) : Nat) : Int) == 1) = kholds (a, b, c, d) 0 ∧ (((cnt (a, b, c, d) : Nat) : Int) == 3) = kholds (a, b, c, d) 1 ∧ (((cnt (a, b, c, d) : Nat) : Int) == 4) = kholds (a, b, c, d) 2 ∧ (((cnt (a, b, c, d) : Nat) : Int) == 2) = kholds (a, b, c, d) 5 := by
  revert a b c d; decide
theorem kix_first {a b c d : Bool} {k : Nat} (hk : k ≤ kix (a, b, c, d)) : (kholds (a, b, c, d) k = true → k = kix (a, b, c, d)) ∧ (kholds (a, b, c, d) k = false → k + 1 ≤ kix (a, b, c, d)) := by
  obtain ⟨h1, h2, h3⟩ := kix_lt a b c d
  refine ⟨fun h => ?_, fun h => ?_⟩
  · rcases Nat.lt_or_ge k (kix (a, b, c, d)) with hlt | hge
    · have := List.all_eq_true.1 h3 k (List.mem_range.2 hlt)
      rw [h] at this
      cases this
    · omega
  · rcases Nat.lt_or_ge k (kix (a, b, c, d)) with hlt | hge
    · omega
    · obtain rfl : k = kix (a, b, c, d) := by omega
      rw [h2] at h
      cases h
theorem findKind_any (a b c d : Bool) (b0 p0 p1 p2 p5 g : Nat) (w : World) (hK : KindsAt w b0 p0 p1 p2 p5) (hg : LegsAt w g a b c d) :
    Calls Tryz.prog 94 #[.slice (some ⟨b0, 0, none⟩) 6 6, .func (.func 95) #[] #[.pointer (some ⟨g, 0, none⟩)]] w (RV w (.int .i64 (kix (a, b, c, d)))) := by
  have hlt6 := (kix_lt a b c d).1
  go_enter Tryz.func94, Tryz.ntmps94
  go_wp2
  go_loopw [8] (fun i wr => ∃ k : Nat, k ≤ kix (a, b, c, d) ∧ i = .int .i64 k ∧ Below w.heap.size w wr) (fun i _ => 6 - (intOf i).toNat)
  case atStart => exact ⟨0, Nat.zero_le _, rfl, bl_refl⟩
  case round =>
    obtain ⟨k, hk, rfl, hbw⟩ := hrel
    have HF := Lib.hid (kix_first hk)
    have hB := hK.b.below hbw
    have n0 := hK.n0.below hbw
    have n1 := hK.n1.below hbw
    have n2 := hK.n2.below hbw
    have n5 := hK.n5.below hbw
    have hG : LegsAt wr g a b c d := Blk.below hg hbw
    have fB := hB.facts
    obtain rfl | rfl | rfl | rfl | rfl | rfl : k = 0 ∨ k = 1 ∨ k = 2 ∨ k = 3 ∨ k = 4 ∨ k = 5 := by omega
    · have hc := first_n (kstr 0) a b c d 1 p0 g wr n0 hG
      rw [(holds_eq a b c d).1] at hc
      obtain ⟨q, hq⟩ : ∃ q, kholds (a, b, c, d) 0 = q := ⟨_, rfl⟩
      rw [hq] at hc
      have HQ := Lib.hid hq
      clear hq n0 n1 n2 n5 hG
      cases q
      · go_wp2_with (go_at_call 95; refine hc.mono ?_; rintro e w1 ⟨rfl, hb1⟩)
        go_roundw
        case rel => exact ⟨1, HF.out.2 HQ.out, by go_num, by (repeat (first | exact bl_refl | assumption | (apply bl_then; assumption) | refine bl_alloc ?_ _ | refine bl_drew ?_ | refine bl_drewN ?_ _))⟩
        case measure => simp [intOf]
      · go_wp2_with (go_at_call 95; refine hc.mono ?_; rintro e w1 ⟨rfl, hb1⟩)
        go_ret
        exact ⟨ret_int (by rw [← HF.out.1 HQ.out]; rfl), by (repeat (first | exact bl_refl | assumption | (apply bl_then; assumption) | refine bl_alloc ?_ _ | refine bl_drew ?_ | refine bl_drewN ?_ _))⟩
    · have hc := first_n (kstr 1) a b c d 3 p1 g wr n1 hG
      rw [(holds_eq a b c d).2.1] at hc
      obtain ⟨q, hq⟩ : ∃ q, kholds (a, b, c, d) 1 = q := ⟨_, rfl⟩
      rw [hq] at hc
      have HQ := Lib.hid hq
      clear hq n0 n1 n2 n5 hG
      cases q
      · go_wp2_with (go_at_call 95; refine hc.mono ?_; rintro e w1 ⟨rfl, hb1⟩)
        go_roundw
        case rel => exact ⟨2, HF.out.2 HQ.out, by go_num, by (repeat (first | exact bl_refl | assumption | (apply bl_then; assumption) | refine bl_alloc ?_ _ | refine bl_drew ?_ | refine bl_drewN ?_ _))⟩
        case measure => simp [intOf]
      · go_wp2_with (go_at_call 95; refine hc.mono ?_; rintro e w1 ⟨rfl, hb1⟩)
        go_ret
        exact ⟨ret_int (by rw [← HF.out.1 HQ.out]; rfl), by (repeat (first | exact bl_refl | assumption | (apply bl_then; assumption) | refine bl_alloc ?_ _ | refine bl_drew ?_ | refine bl_drewN ?_ _))⟩
    · have hc := first_n (kstr 2) a b c d 4 p2 g wr n2 hG
      rw [(holds_eq a b c d).2.2.1] at hc
      obtain ⟨q, hq⟩ : ∃ q, kholds (a, b, c, d) 2 = q := ⟨_, rfl⟩
      rw [hq] at hc
      have HQ := Lib.hid hq
      clear hq n0 n1 n2 n5 hG
      cases q
      · go_wp2_with (go_at_call 95; refine hc.mono ?_; rintro e w1 ⟨rfl, hb1⟩)
        go_roundw
        case rel => exact ⟨3, HF.out.2 HQ.out, by go_num, by (repeat (first | exact bl_refl | assumption | (apply bl_then; assumption) | refine bl_alloc ?_ _ | refine bl_drew ?_ | refine bl_drewN ?_ _))⟩
        case measure => simp [intOf]
      · go_wp2_with (go_at_call 95; refine hc.mono ?_; rintro e w1 ⟨rfl, hb1⟩)
        go_ret
        exact ⟨ret_int (by rw [← HF.out.1 HQ.out]; rfl), by (repeat (first | exact bl_refl | assumption | (apply bl_then; assumption) | refine bl_alloc ?_ _ | refine bl_drew ?_ | refine bl_drewN ?_ _))⟩
    · have hc := first_s (kstr 3) a b c d g wr hG
      have hc : Calls _ _ _ _ (RV wr (.bool (kholds (a, b, c, d) 3))) := hc
      obtain ⟨q, hq⟩ : ∃ q, kholds (a, b, c, d) 3 = q := ⟨_, rfl⟩
      rw [hq] at hc
      have HQ := Lib.hid hq
      clear hq n0 n1 n2 n5 hG
      cases q
      · go_wp2_with (go_at_call 95; refine hc.mono ?_; rintro e w1 ⟨rfl, hb1⟩)
        go_roundw
        case rel => exact ⟨4, HF.out.2 HQ.out, by go_num, by (repeat (first | exact bl_refl | assumption | (apply bl_then; assumption) | refine bl_alloc ?_ _ | refine bl_drew ?_ | refine bl_drewN ?_ _))⟩
        case measure => simp [intOf]
      · go_wp2_with (go_at_call 95; refine hc.mono ?_; rintro e w1 ⟨rfl, hb1⟩)
        go_ret
        exact ⟨ret_int (by rw [← HF.out.1 HQ.out]; rfl), by (repeat (first | exact bl_refl | assumption | (apply bl_then; assumption) | refine bl_alloc ?_ _ | refine bl_drew ?_ | refine bl_drewN ?_ _))⟩
    · have hc := first_p (kstr 4) a b c d g wr hG
      have hc : Calls _ _ _ _ (RV wr (.bool (kholds (a, b, c, d) 4))) := hc
      obtain ⟨q, hq⟩ : ∃ q, kholds (a, b, c, d) 4 = q := ⟨_, rfl⟩
      rw [hq] at hc
      have HQ := Lib.hid hq
      clear hq n0 n1 n2 n5 hG
      cases q
      · go_wp2_with (go_at_call 95; refine hc.mono ?_; rintro e w1 ⟨rfl, hb1⟩)
        go_roundw
        case rel => exact ⟨5, HF.out.2 HQ.out, by go_num, by (repeat (first | exact bl_refl | assumption | (apply bl_then; assumption) | refine bl_alloc ?_ _ | refine bl_drew ?_ | refine bl_drewN ?_ _))⟩
        case measure => simp [intOf]
      · go_wp2_with (go_at_call 95; refine hc.mono ?_; rintro e w1 ⟨rfl, hb1⟩)
        go_ret
        exact ⟨ret_int (by rw [← HF.out.1 HQ.out]; rfl), by (repeat (first | exact bl_refl | assumption | (apply bl_then; assumption) | refine bl_alloc ?_ _ | refine bl_drew ?_ | refine bl_drewN ?_ _))⟩
    · have hc := first_n (kstr 5) a b c d 2 p5 g wr n5 hG
      rw [(holds_eq a b c d).2.2.2] at hc
      obtain ⟨q, hq⟩ : ∃ q, kholds (a, b, c, d) 5 = q := ⟨_, rfl⟩
      rw [hq] at hc
      have HQ := Lib.hid hq
      clear hq n0 n1 n2 n5 hG
      cases q
      · go_wp2_with (go_at_call 95; refine hc.mono ?_; rintro e w1 ⟨rfl, hb1⟩)
        go_roundw
        case rel => exact ⟨6, HF.out.2 HQ.out, by go_num, by (repeat (first | exact bl_refl | assumption | (apply bl_then; assumption) | refine bl_alloc ?_ _ | refine bl_drew ?_ | refine bl_drewN ?_ _))⟩
        case measure => simp [intOf]
      · go_wp2_with (go_at_call 95; refine hc.mono ?_; rintro e w1 ⟨rfl, hb1⟩)
        go_ret
        exact ⟨ret_int (by rw [← HF.out.1 HQ.out]; rfl), by (repeat (first | exact bl_refl | assumption | (apply bl_then; assumption) | refine bl_alloc ?_ _ | refine bl_drew ?_ | refine bl_drewN ?_ _))⟩
end Go.Proofs.YthcnngoaijgnoaaGreat

/- The kinds of a torn net's knots, of the program, walked. Conditions: slices that read as lists. -/
namespace Go.Proofs.YthcnngoaijgnoaaGreat
open Go.RowKit Go.ChangeMaps
set_option maxHeartbeats 4000000
set_option maxRecDepth 100000
attribute [local go_sem] Oper.semAt_some

/-- a knot, how many bars it lacks, its kind's number -/
abbrev LegT := Knot × Nat × Nat
def lc (x : LegT) : List Value := [.int .i64 x.1.1, .int .i64 x.1.2, .int .i64 x.2.1, kstr x.2.2]
theorem lc_len (x : LegT) : (lc x).length = 4 := rfl
theorem kstr_one (i : Nat) : (kstr i).oneCell' = true := rfl
theorem lc_one (x : LegT) : ∀ u ∈ lc x, u.oneCell' = true := by
  intro u hu
  simp [lc] at hu
  rcases hu with rfl | rfl | rfl | rfl
  · rfl
  · rfl
  · rfl
  · exact kstr_one _
theorem leg_elem : Elem Tryz.prog 50 54 4 40 := ⟨by kernel_rfl, by kernel_rfl, by decide⟩
abbrev OwL (base : Nat) := Own lc 4 base 54
theorem Sl.one_leg (w : World) (x : LegT) : Sl lc 4 (w.alloc (.cells #[.int .i64 x.1.1, .int .i64 x.1.2, .int .i64 x.2.1, kstr x.2.2] 54)) (.slice (some ⟨w.heap.size, 0, none⟩) 1 1) [x] := by
  have hB := Blk.new w 54 #[.int .i64 x.1.1, .int .i64 x.1.2, .int .i64 x.2.1, kstr x.2.2]
  refine ⟨_, 1, rfl, by simp, by simp [maxLen], fun i b hb => ?_⟩
  match i, hb with
  | 0, hb =>
    obtain rfl : x = b := by simpa using hb
    refine ⟨_, 0, rfl, hB.lt, fun j u hj => ?_⟩
    rw [hB.cell]
    simpa [lc] using hj
theorem wpListIn_appL1 {F : Fence} {n : Nat} {ops : Array Oper} {rest : List Oper} {o : Oper} {a : Act} {Q : Exit → Act → World → Prop} {base : Nat} {W : World} {v : Value} {x y : Int} {m i : Nat} {l : List LegT} (hown : OwL base W v l) {g : Nat} (hgd : o.guard = none) (s z : Operand)
    (ho : o.op = .call { callee := .builtin .append, args := #[s, z], argTypes := #[50, 50] })
    (hs : a.eval s = v) (hx : a.eval z = .slice (some ⟨g, 0, none⟩) 1 1) (hg : W.heap.size = g) (hlen : l.length ≤ 1000000) (hbase : base ≤ W.heap.size)
    (h : ∀ v' w', OwL base w' v' (l ++ [((x, y), m, i)]) → (W.alloc (.cells #[.int .i64 x, .int .i64 y, .int .i64 m, kstr i] 54)).grownBy w' v.ownBlock → wpListIn F n Tryz.prog ops Q rest (a.put o.dst v') w') :
    wpListIn F n Tryz.prog ops Q (o :: rest) a (W.alloc (.cells #[.int .i64 x, .int .i64 y, .int .i64 m, kstr i] 54)) := by
  subst hg
  exact wpListIn_app hgd leg_elem lc_len lc_one s z ho base v _ l [((x, y), m, i)] hs hx (hown.alloc _) (Sl.one_leg W ((x, y), m, i)) (by simp [maxLen]; omega) (by simp; omega) (by simp; omega) h

def legOf (D : List Bar) (k : Knot) : LegT := (k, cnt (legsAt D k), kix (legsAt D k))
def kindsL (N D : List Bar) : List LegT := if tornE N D = 0 then (holeK D).map (legOf D) else []
/-- the call returns a fresh row of legs and an error -/
def RLE (w : World) (l : List LegT) (n : Int) (e : Ending) (w' : World) : Prop := ∃ v, e = .returned (.tuple #[v, .int .i64 n]) ∧ OwL w.heap.size w' v l ∧ Below w.heap.size w w'

theorem KindsAt.below {w W : World} {b p0 p1 p2 p5 : Nat} (h : KindsAt w b p0 p1 p2 p5) (hb : Below w.heap.size w W) : KindsAt W b p0 p1 p2 p5 := ⟨h.b.below hb, h.n0.below hb, h.n1.below hb, h.n2.below hb, h.n5.below hb⟩
theorem KindsAt.alloc {w : World} {b p0 p1 p2 p5 : Nat} (h : KindsAt w b p0 p1 p2 p5) (o : Obj) : KindsAt (w.alloc o) b p0 p1 p2 p5 := h.below (bl_alloc bl_refl o)
theorem KindsAt.str {w : World} {b p0 p1 p2 p5 : Nat} (h : KindsAt w b p0 p1 p2 p5) {k : Nat} (hk : k < 6) : b < w.heap.size ∧ w.cell? ⟨b, k * 2, none⟩ = some (kstr k) := by
  refine ⟨h.b.lt, ?_⟩
  rw [h.b.cell]
  obtain rfl | rfl | rfl | rfl | rfl | rfl : k = 0 ∨ k = 1 ∨ k = 2 ∨ k = 3 ∨ k = 4 ∨ k = 5 := by omega
  all_goals rfl
theorem KindsAt.grown {w W : World} {b p0 p1 p2 p5 B : Nat} {row : Option Nat} (h : KindsAt w b p0 p1 p2 p5) (hg : w.grownBy W row) (hr : ∀ r, row = some r → B ≤ r ∧ ∃ o : Obj, w.heap[r]? = some o ∧ o.isCells = false) : KindsAt W b p0 p1 p2 p5 :=
  ⟨h.b.grown hg (nc_blk h.b hr), h.n0.grown hg (nc_blk h.n0 hr), h.n1.grown hg (nc_blk h.n1 hr), h.n2.grown hg (nc_blk h.n2 hr), h.n5.grown hg (nc_blk h.n5 hr)⟩
theorem Blk.far2 {w : World} {g g' : Nat} {t t' : TypeId} {cs cs' : Array Value} (h : Blk w g t cs) (h' : Blk w g' t' cs') (ht : t ≠ t') (i : Nat) (u : Value) : Blk (w.setCell ⟨g', i, none⟩ u) g t cs :=
  h.far (fun e => by
    have e' : g = g' := e
    subst e'
    unfold Blk at h h'
    rw [h] at h'
    exact ht (by injection (Option.some.inj h'))) u
theorem KindsAt.own {w W : World} {b p0 p1 p2 p5 base : Nat} {v : Value} {l : List LegT} (h : KindsAt w b p0 p1 p2 p5) (ho : OwL base w v l) (hg : w.grownBy W v.ownBlock) : KindsAt W b p0 p1 p2 p5 :=
  ⟨h.b.grown hg (ho.ne_blk h.b (by decide)), h.n0.grown hg (ho.ne_blk h.n0 (by decide)), h.n1.grown hg (ho.ne_blk h.n1 (by decide)), h.n2.grown hg (ho.ne_blk h.n2 (by decide)), h.n5.grown hg (ho.ne_blk h.n5 (by decide))⟩
theorem KindsAt.set {w : World} {b p0 p1 p2 p5 g : Nat} {cs : Array Value} (h : KindsAt w b p0 p1 p2 p5) (hB : Blk w g 50 cs) (i : Nat) (u : Value) : KindsAt (w.setCell ⟨g, i, none⟩ u) b p0 p1 p2 p5 :=
  ⟨h.b.far2 hB (by decide) _ _, h.n0.far2 hB (by decide) _ _, h.n1.far2 hB (by decide) _ _, h.n2.far2 hB (by decide) _ _, h.n5.far2 hB (by decide) _ _⟩
theorem pkinds_any {v u : Value} (N D : List Bar) (w : World) (hN : SlB w v N) (hD : SlB w u D) : Calls Tryz.prog 32 #[.agg #[v, u]] w (RLE w (kindsL N D) (tornE N D)) := by
  have hB := Blk.new w 32 #[v, u]
  have hN0 := hN.alloc (.cells #[v, u] 32)
  have hD0 := hD.alloc (.cells #[v, u] 32)
  by_cases hE0 : tornE N D = 0
  · have hE' : (tornE N D != 0) = false := by rw [hE0]; rfl
    have hok := torn_ok hE0
    have hlen := hok.lens.2
    have hsd : ∀ b ∈ D, Sided b := fun b hb => (hok.dam.ok b hb).2.2
    have HS : Hid (kindsL N D = (holeK D).map (legOf D) ∧ tornE N D = 0) := by unfold Hid kindsL; rw [if_pos hE0]; exact ⟨rfl, hE0⟩
    clear hE0
    refine (callsIn_wide (n := 6)).1 ?_
    refine callsIn_of_wp_marks Tryz.func32 rfl trivial ?_ rfl
    simp only [Tryz.ntmps32, List.size_toArray, List.length_cons, List.length_nil, Nat.reduceAdd, Nat.reduceSub, Array.replicate_succ, Array.replicate_zero, List.push_toArray, List.append_toArray, List.nil_append, List.cons_append]
    gi_wp2_with (first | (refine ⟨trivial, ?_⟩; gi_at_call 57; refine (callsIn_wide.2 (mtorn_any N D _ hN0 hD0)).mono ?_; rintro e w1 ⟨rfl, hb1⟩; have hB1 := hB.below hb1; have hD1 := hD0.below hb1; have f1 := hB1.facts) |
      (refine ⟨trivial, ?_⟩; gi_at_call 92; refine (callsIn_wide.2 (kinds_any _)).mono ?_; rintro e w2 ⟨bk, p0, p1, p2, p5, rfl, hbk, hp0, hp1, hp2, hp5, hK2, hb2⟩; have hB2 := hB1.below hb2; have hD2 := hD1.below hb2; have f2 := hB2.facts; have hBB := (hB2.alloc (.cells #[.slice (some ⟨bk, 0, none⟩) 6 6] 124)).alloc (.cells #[.slice none 0 0] 50); have fBB := hBB.facts; have hT2 := (Blk.new w2 124 #[.slice (some ⟨bk, 0, none⟩) 6 6]).alloc (.cells #[.slice none 0 0] 50); have hO2 := Blk.new1 w2 (.cells #[.slice (some ⟨bk, 0, none⟩) 6 6] 124) 50 #[.slice none 0 0]; have hK2' := (hK2.alloc (.cells #[.slice (some ⟨bk, 0, none⟩) 6 6] 124)).alloc (.cells #[.slice none 0 0] 50)) |
      (refine ⟨trivial, ?_⟩; gi_at_call 77; refine (callsIn_wide.2 (newHole_any D _ ((hD2.alloc _).alloc _) hok.dam.nodup hok.dam.ok)).mono ?_; rintro e w3 ⟨h, rb, rk, rfl, hh3, hrb3, hrk3, H3, hb3⟩) |
      (refine ⟨trivial, ?_⟩; gi_at_call 93; refine (callsIn_wide.2 (all_any h rb rk D _ H3 hsd hlen)).mono ?_; rintro e w4 ⟨bh, bl, va, rfl, hbh, hbl, hBh, hBl, hv, hb4⟩))
    simp only [World.size_alloc] at hh3 hrb3 hrk3
    have z1 := hb1.size
    have z2 := hb2.size
    have z3 := hb3.size
    have z4 := hb4.size
    simp only [World.size_alloc] at z1 z3
    have hHlt := H3.blk.lt
    have hrblt : rb < w3.heap.size := by obtain ⟨_, _, hm, _⟩ := H3.bars; exact hm.lt
    have hrklt : rk < w3.heap.size := by obtain ⟨_, _, hm, _⟩ := H3.knots; exact hm.lt
    have hT4 := (hT2.below hb3).below hb4
    have hO4 := (hO2.below hb3).below hb4
    have hK4 := (hK2'.below hb3).below hb4
    have hH4 := H3.below hb4
    have hbw4 : Below w.heap.size w w4 := by (repeat (first | exact bl_refl | assumption | (apply bl_then; assumption) | refine bl_alloc ?_ _ | refine bl_drew ?_ | refine bl_drewN ?_ _))
    have hN := holeK_len D
    clear hB hN0 hD0 hB1 hD1 f1 hB2 hD2 f2 hBB fBB hT2 hO2 hK2 hK2' H3
    obtain ⟨q, hq⟩ : ∃ q, w2.heap.size = q := ⟨_, rfl⟩
    rw [hq] at hT4 hO4 hh3 hrb3 hrk3 z2 z3 ⊢
    refine wpIn_rangeFunc_ownH rfl (by omega) (gf := 142) (lb := #[.pointer (some ⟨bl, 0, none⟩), .pointer (some ⟨bh, 0, none⟩)]) rfl trivial (enters_of Tryz.func142 (by kernel_rfl) rfl)
      (all_stops 5 (by omega) [q + 1] bl bh h rb rk w3.heap.size D va w4 (by simp; omega) (by simp; omega) (by simp; omega) (by simp; omega) (by simp; omega) (by simp; omega) hBl hBh hH4 hv) keepB_t (keepB_b (Nat.le_refl _)) (Below.refl _ _) (fun _ => rfl)
      (fun pre W => (Blk W q 124 #[.slice (some ⟨bk, 0, none⟩) 6 6] ∧ KindsAt W bk p0 p1 p2 p5) ∧ (∃ u, Blk W (q + 1) 50 #[u] ∧ OwL w4.heap.size W u (pre.map (legOf D))) ∧ Below w.heap.size w W ∧ w4.heap.size ≤ W.heap.size)
      (fun _ _ _ => False)
      (fun _ W W' row hs hg hr => by
        obtain ⟨⟨k1, k2⟩, ⟨u, h1, h2⟩, h3, h4⟩ := hs
        exact ⟨⟨k1.grown hg (nc_blk k1 hr), k2.grown hg hr⟩, ⟨u, h1.grown hg (nc_blk h1 hr), h2.kept hg (nc_own h2 hr)⟩, bl_grown hg h3 (fun k e => by have := (hr k e).1; omega), Nat.le_trans h4 hg.size⟩)
      (fun _ _ _ _ _ hs _ _ => hs)
      ⟨⟨hT4, hK4⟩, ⟨_, hO4, Own.nil_⟩, hbw4, Nat.le_refl _⟩
      (fun x a' W => ∃ Bk Bl, Bx D x w4.heap.size Bk Bl W ∧ a' = { tmps := #[.agg #[v, u], .pointer (some ⟨w.heap.size, 0, none⟩), .slice none 0 0, .int .i64 0, .int .i64 (tornE N D), .pointer (some ⟨q, 0, none⟩), .pointer (some ⟨q + 1, 0, none⟩), .pointer (some ⟨Bk, 0, none⟩), .pointer (some ⟨Bl, 0, none⟩), undef,
        .agg #[v, u], .int .i64 (tornE N D), .int .i64 (tornE N D), .bool false, undef, .slice (some ⟨bk, 0, none⟩) 6 6, .pointer (some ⟨w.heap.size, 1, none⟩), u, .pointer (some ⟨h, 0, none⟩), .func (.func 142) #[] #[.pointer (some ⟨bl, 0, none⟩), .pointer (some ⟨bh, 0, none⟩)], kk x, lv (legsAt D x),
        undef, undef, undef, undef, undef, undef, undef, undef, undef, undef, undef, undef, undef, undef, undef, undef], defers := [] })
      (fun x a' s W W' row hs hg hr => by
        obtain ⟨Bk, Bl, hX, rfl⟩ := hs
        exact ⟨Bk, Bl, Bx.own s W W' row hX hg hr, rfl⟩) ?assign ?body ?done ?stop
    case assign =>
      rintro l pre x W K ⟨⟨k1, k2⟩, ⟨u, hu1, hu2⟩, hbw, hsz⟩ hK
      unfold encs kk lv
      gi_wp2
      have hb2 : Below W.heap.size W ((W.alloc (.cells #[.int .i64 x.1, .int .i64 x.2] 26)).alloc (.cells #[.bool (legsAt D x).1, .bool (legsAt D x).2.1, .bool (legsAt D x).2.2.1, .bool (legsAt D x).2.2.2] 107)) := by (repeat (first | exact bl_refl | assumption | (apply bl_then; assumption) | refine bl_alloc ?_ _ | refine bl_drew ?_ | refine bl_drewN ?_ _))
      exact hK _ _ (keeps_of_below hb2) (KeepB.of_below hb2 hsz) ⟨⟨k1.below hb2, k2.below hb2⟩, ⟨u, hu1.below hb2, hu2.below hb2⟩, bl_then hb2 hbw, Nat.le_trans hsz hb2.size⟩
        ⟨W.heap.size, W.heap.size + 1, ⟨(Blk.new W _ _).alloc _, Blk.new1 W _ _ _, hsz, by omega⟩, rfl⟩
    case body =>
      rintro l pre ⟨x, y⟩ a' W _ _ ⟨⟨k1, k2⟩, ⟨u, hu1, hu2⟩, hbw, hsz⟩ ⟨Bk, Bl, hX, rfl⟩ hlt
      obtain ⟨⟨l0, l1, l2, l3⟩, hL⟩ : ∃ L, legsAt D (x, y) = L := ⟨_, rfl⟩
      have hT : Hid ((pre ++ [(x, y)]).map (legOf D) = pre.map (legOf D) ++ [((x, y), cnt (l0, l1, l2, l3), kix (l0, l1, l2, l3))]) := by
        unfold Hid
        rw [List.map_append, ← hL]; rfl
      obtain ⟨hXk, hXl, hk1, hk2⟩ := hX
      rw [hL] at hXl
      unfold kk lv
      rw [hL]
      simp only at hXk hXl
      have hkx := (kix_lt l0 l1 l2 l3).1
      have hfk := findKind_any l0 l1 l2 l3 bk p0 p1 p2 p5 Bl
      obtain ⟨kx, hkxe⟩ : ∃ kx, kix (l0, l1, l2, l3) = kx := ⟨_, rfl⟩
      rw [hkxe] at hkx hT hfk
      have fk := hXk.facts
      have fl := hXl.facts
      have ft := k1.facts
      clear hL hkxe
      gi_wp2_with (refine ⟨trivial, ?_⟩; gi_at_call 94; refine (CallsIn.inRound l (callsIn_wide.2 (hfk W k2 hXl))).mono ?_; rintro e w5 ⟨rfl, hb5⟩)
      have k15 := k1.below hb5
      have k25 := k2.below hb5
      have hu15 := hu1.below hb5
      have hu25 := hu2.below hb5
      have hXk5 := hXk.below hb5
      have hXl5 := hXl.below hb5
      obtain ⟨hbk5, hst5⟩ := k25.str hkx
      have g1 := k15.facts
      have g2 := hu15.facts
      have g3 := hXk5.facts
      have g4 := hXl5.facts
      have hk6 : (kx : Int) < 6 := by omega
      clear fk fl ft
      refine wpIn_region_ords [0, 1, 2, 4, 5, 6, 7, 8] [(3, false), (9, false), (10, false)] [11, 12] (fun _ => trivial) (by kernel_rfl) (by kernel_rfl) (by kernel_rfl) (fun d _ _ _ _ h => by cases d <;> exact h) ?_
      simp only [List.map_cons, List.map_nil, List.getD_cons_zero, List.getD_cons_succ]
      repeat (go_big_quiet_step (fail))
      refine wpQuiet_nil ?_
      refine wpMidI_run rfl (fun K hK => ?_)
      go_simp
      refine ⟨trivial, ?_⟩
      refine (CallsIn.inRound l (callsIn_wide.2 (count_any l0 l1 l2 l3 _))).mono ?_
      rintro e w6 ⟨rfl, hb6⟩
      refine hK _ _ (by (repeat (first | exact bl_refl | assumption | (apply bl_then; assumption) | refine bl_alloc ?_ _ | refine bl_drew ?_ | refine bl_drewN ?_ _))) ?_
      clear hK K
      refine wpMidI_run rfl (fun K hK => ?_)
      go_simp
      refine hK _ _ (by (repeat (first | exact bl_refl | assumption | (apply bl_then; assumption) | refine bl_alloc ?_ _ | refine bl_drew ?_ | refine bl_drewN ?_ _))) ?_
      clear hK K
      refine wpMidI_run rfl (fun K hK => ?_)
      go_simp
      refine hK _ _ (by (repeat (first | exact bl_refl | assumption | (apply bl_then; assumption) | refine bl_alloc ?_ _ | refine bl_drew ?_ | refine bl_drewN ?_ _))) ?_
      clear hK K
      refine wpMidI_nil ?_
      have hb6' : Below w5.heap.size w5 w6 := bl_d hb6
      have hu16 := hu15.below hb6'
      have hu26 := hu25.below hb6'
      have f6 := hu16.facts
      have hb56 : Below W.heap.size W w6 := bl_then hb6' hb5
      have hsz6 : w4.heap.size ≤ w6.heap.size := Nat.le_trans hsz hb56.size
      have hal : Below w6.heap.size w6 (w6.alloc (.cells #[.int .i64 x, .int .i64 y, .int .i64 (cnt (l0, l1, l2, l3)), kstr kx] 54)) := bl_alloc bl_refl _
      have hsz7 : w4.heap.size ≤ (w6.alloc (.cells #[.int .i64 x, .int .i64 y, .int .i64 (cnt (l0, l1, l2, l3)), kstr kx] 54)).heap.size := Nat.le_trans hsz6 hal.size
      have HLN : (pre.map (legOf D)).length ≤ 1000000 := by rw [List.length_map]; omega
      gi_wp2_with (gi_at_builtin; refine wpListIn_appL1 hu26 rfl _ _ rfl rfl rfl rfl HLN hsz6 ?_; intro v3 w7 hu3 hgr3; obtain ⟨A3, c3, rfl⟩ := hu3.shape; have hu13 := (hu16.alloc (.cells #[.int .i64 x, .int .i64 y, .int .i64 (cnt (l0, l1, l2, l3)), kstr kx] 54)).grown hgr3 (hu26.ne_blk hu16 (by decide)); have fo3 := hu13.facts)
      simp only [List.length_append, List.length_cons, List.length_nil, Nat.zero_add] at hu3
      rw [List.length_map] at hu3
      have hu26a := hu26.alloc (.cells #[.int .i64 x, .int .i64 y, .int .i64 (cnt (l0, l1, l2, l3)), kstr kx] 54)
      have k16 := (k15.below hb6').alloc (.cells #[.int .i64 x, .int .i64 y, .int .i64 (cnt (l0, l1, l2, l3)), kstr kx] 54)
      have k26 := (k25.below hb6').alloc (.cells #[.int .i64 x, .int .i64 y, .int .i64 (cnt (l0, l1, l2, l3)), kstr kx] 54)
      have k17 := k16.grown hgr3 (hu26a.ne_blk k16 (by decide))
      have k27 := k26.own hu26a hgr3
      have hbw3 : Below w.heap.size w w7 := bl_grown hgr3 (bl_then hal (bl_then hb56 hbw)) (fun k e => by have := (hu26.lt k e).1; omega)
      exact ⟨(keeps_of_below hb56).trans ((keeps_of_below hal).trans ((keeps_grown hu26a hgr3).trans (keeps_set hu13 0 _))),
        (KeepB.of_below hb56 hsz).trans ((KeepB.of_below hal hsz6).trans ((KeepB.of_grown hgr3 hsz7 (fun k e => (hu26.lt k e).1)).trans (KeepB.of_set (by simp)))),
        ⟨⟨k17.far2 hu13 (by decide) _ _, k27.set hu13 _ _⟩, ⟨_, hu13.set_ 0 _, by rw [hT.out]; exact hu3.set (Ne.symm (hu3.ne_blk hu13 (by decide))) _⟩, bl_set hbw3 (by simp; omega) _, Nat.le_trans hsz7 (Nat.le_trans hgr3.size (by simp [World.setCell]))⟩⟩
    case done =>
      rintro D' ys W hD rfl ⟨⟨k1, k2⟩, ⟨u, hu1, hu2⟩, hbw, hsz⟩ hK
      have fo := hu1.facts
      gi_wp2
      refine ⟨by simp, .inl ⟨_, _, rfl, run_takeDeferred hK, ?_⟩⟩
      exact ⟨.tuple #[u, .int .i64 0], by simp [results, Tryz.results32, go_sem], u, by rw [HS.out.2], by rw [HS.out.1]; exact Own.base_mono (ownsRow_putObj hu2 _ hK rfl) (by omega), hbw.trans (belowK_b (w := w) (Nat.le_refl _) W D' _ _ (by omega) hK rfl rfl)⟩
    case stop =>
      rintro D' c pre W _ _ h _
      exact h.elim
  · have hE' : (tornE N D != 0) = true := by simpa using hE0
    have HS : Hid (kindsL N D = []) := by unfold Hid kindsL; rw [if_neg hE0]
    clear hE0
    go_enter Tryz.func32, Tryz.ntmps32
    go_wp2_with (go_at_call 57; refine (mtorn_any N D _ hN0 hD0).mono ?_; rintro e w1 ⟨rfl, hb1⟩)
    go_ret2
    exact ⟨.slice none 0 0, rfl, by rw [HS.out]; exact Own.nil_, by (repeat (first | exact bl_refl | assumption | (apply bl_then; assumption) | refine bl_alloc ?_ _ | refine bl_drew ?_ | refine bl_drewN ?_ _))⟩
end Go.Proofs.YthcnngoaijgnoaaGreat

/- The bars between the knots of a walk, and a bar's place, of the reference, walked. Conditions: knots within bounds. -/
namespace Go.Proofs.YthcnngoaijgnoaaGreat
open Go.RowKit Go.ChangeMaps
set_option maxHeartbeats 4000000
set_option maxRecDepth 100000

def rAdj (a b : Knot) : Bool := if b.2 < a.2 then decide (a.2 = b.2 + 1) && (decide (a.1 - b.1 = 1) || decide (a.1 - b.1 = -1)) else decide (b.2 = a.2 + 1) && (decide (b.1 - a.1 = 1) || decide (b.1 - a.1 = -1))
theorem rbetween_any (x y x' y' : Int) (hn : nearK (x, y)) (hn' : nearK (x', y')) (w : World) : Calls Tryz.prog 117 #[.agg #[.int .i64 x, .int .i64 y], .agg #[.int .i64 x', .int .i64 y']] w
    (RV w (.tuple #[.agg #[.int .i64 (btwB (x, y) (x', y')).1, .int .i64 (btwB (x, y) (x', y')).2.1, .int .i64 (btwB (x, y) (x', y')).2.2], .bool (rAdj (x, y) (x', y'))])) := by
  have hB1 := ((Blk.new w 26 #[.int .i64 x, .int .i64 y]).alloc (.cells #[.int .i64 x', .int .i64 y'] 26)).alloc (.cells #[.int .i64 0, .int .i64 0, .int .i64 0] 70)
  have hB2 := (Blk.new1 w (.cells #[.int .i64 x, .int .i64 y] 26) 26 #[.int .i64 x', .int .i64 y']).alloc (.cells #[.int .i64 0, .int .i64 0, .int .i64 0] 70)
  have hR := Blk.new2 w (.cells #[.int .i64 x, .int .i64 y] 26) (.cells #[.int .i64 x', .int .i64 y'] 26) 70 #[.int .i64 0, .int .i64 0, .int .i64 0]
  have f1 := hB1.facts
  have f2 := hB2.facts
  have fR := hR.facts
  unfold nearK at hn hn'
  simp only at hn hn'
  obtain ⟨V, hV⟩ : ∃ V : Value, .tuple #[.agg #[.int .i64 (btwB (x, y) (x', y')).1, .int .i64 (btwB (x, y) (x', y')).2.1, .int .i64 (btwB (x, y) (x', y')).2.2], .bool (rAdj (x, y) (x', y'))] = V := ⟨_, rfl⟩
  rw [hV]
  have HV := Lib.hid hV
  clear hV
  by_cases hlt : y' < y
  · have hgt : (y' < y) = True := by simp [hlt]
    have hbt : btwB (x, y) (x', y') = (x', y', x - x') := by unfold btwB; rw [if_pos hlt]
    have hrA : rAdj (x, y) (x', y') = (decide (y = y' + 1) && (decide (x - x' = 1) || decide (x - x' = -1))) := by unfold rAdj; rw [if_pos hlt]
    have HT := Lib.hid hbt
    have HA := Lib.hid hrA
    clear hbt hrA
    go_enter Tryz.func117, Tryz.ntmps117
    go_wp2
    all_goals
      have hbt := HT.out
      have hrA := HA.out
    all_goals exact bodyPost_ret (v := V) (by rw [← HV.out, hbt, hrA]; simp [results, Tryz.results117, go_sem] <;> first | omega | (rw [Bool.eq_iff_iff]; simp only [Bool.or_eq_true, Bool.and_eq_true, decide_eq_true_eq, beq_iff_eq]; omega)) rfl ⟨rfl, by (repeat (first | exact bl_refl | assumption | (apply bl_then; assumption) | refine bl_alloc ?_ _ | refine bl_drew ?_ | refine bl_drewN ?_ _))⟩
  · have hgt : (y' < y) = False := by simp [hlt]
    have hbt : btwB (x, y) (x', y') = (x, y, x' - x) := by unfold btwB; rw [if_neg hlt]
    have hrA : rAdj (x, y) (x', y') = (decide (y' = y + 1) && (decide (x' - x = 1) || decide (x' - x = -1))) := by unfold rAdj; rw [if_neg hlt]
    have HT := Lib.hid hbt
    have HA := Lib.hid hrA
    clear hbt hrA
    go_enter Tryz.func117, Tryz.ntmps117
    go_wp2
    all_goals
      have hbt := HT.out
      have hrA := HA.out
    all_goals exact bodyPost_ret (v := V) (by rw [← HV.out, hbt, hrA]; simp [results, Tryz.results117, go_sem] <;> first | omega | (rw [Bool.eq_iff_iff]; simp only [Bool.or_eq_true, Bool.and_eq_true, decide_eq_true_eq, beq_iff_eq]; omega)) rfl ⟨rfl, by (repeat (first | exact bl_refl | assumption | (apply bl_then; assumption) | refine bl_alloc ?_ _ | refine bl_drew ?_ | refine bl_drewN ?_ _))⟩

theorem rplace_any {v : Value} (l : List Bar) (x y s : Int) (w : World) (h : SlB w v l) : Calls Tryz.prog 135 #[v, .agg #[.int .i64 x, .int .i64 y, .int .i64 s]] w (RV w (.int .i64 (placeP (x, y, s) l 0))) := by
  obtain ⟨A, c, rfl, hlc, hcm, h⟩ := h
  have hl : l.length ≤ maxLen := Nat.le_trans hlc hcm
  unfold maxLen at hl
  have hB := Blk.new w 70 #[.int .i64 x, .int .i64 y, .int .i64 s]
  have h0 := h.alloc (.cells #[.int .i64 x, .int .i64 y, .int .i64 s] 70)
  go_enter Tryz.func135, Tryz.ntmps135
  go_wp2
  go_loopw [5] (fun i wr => ∃ k : Nat, k ≤ l.length ∧ i = .int .i64 k ∧ Hid (placeP (x, y, s) l 0 = placeP (x, y, s) (l.drop k) k) ∧ Below w.heap.size w wr ∧ Blk wr w.heap.size 70 #[.int .i64 x, .int .i64 y, .int .i64 s]) (fun i _ => l.length - (intOf i).toNat)
  case atStart => exact ⟨0, Nat.zero_le _, rfl, rfl, by (repeat (first | exact bl_refl | assumption | (apply bl_then; assumption) | refine bl_alloc ?_ _ | refine bl_drew ?_ | refine bl_drewN ?_ _)), hB⟩
  case round =>
    obtain ⟨k, hk, rfl, H, hbw, hBr⟩ := hrel
    by_cases hlt : k < l.length
    · have hr := h.below hbw
      have fB := hBr.facts
      obtain ⟨b, off, rfl, hb, e0, e1, e2⟩ := hr.bar hlt
      have HD : Hid (placeP (x, y, s) (l.drop k) k = if l[k] = (x, y, s) then (k : Int) else placeP (x, y, s) (l.drop (k + 1)) ((k : Int) + 1)) := by
        unfold Hid
        rw [List.drop_eq_getElem_cons hlt]; rfl
      obtain ⟨q, hq⟩ : ∃ q, beqB l[k].1 l[k].2.1 l[k].2.2 x y s = q := ⟨_, rfl⟩
      have hq' : decide (l[k] = (x, y, s)) = q := hq
      cases q
      · have HN : Hid (placeP (x, y, s) (l.drop k) k = placeP (x, y, s) (l.drop (k + 1)) ((k : Int) + 1)) := by unfold Hid; rw [HD.out, if_neg (by simpa using hq')]
        clear hq'
        go_wp2
        refine wp_region_ords [0, 1, 2, 3, 4, 5] [] [] (by kernel_rfl) (by kernel_rfl) (fun d _ _ _ _ h => by cases d <;> exact h) ?_
        simp only [List.map_cons, List.map_nil, List.getD_cons_zero, List.getD_cons_succ]
        repeat (go_big_quiet_step (fail))
        refine wpQuiet_nil ?_
        refine wpMid_nil ?_
        go_wp2
        go_roundw
        case rel => exact ⟨k + 1, by omega, by go_num, by unfold Hid; rw [H.out, HN.out]; rfl, by (repeat (first | exact bl_refl | assumption | (apply bl_then; assumption) | refine bl_alloc ?_ _ | refine bl_drew ?_ | refine bl_drewN ?_ _)), hBr⟩
        case measure => simp [intOf]; omega
      · have HN : Hid (placeP (x, y, s) l 0 = k) := by unfold Hid; rw [H.out, HD.out, if_pos (by simpa using hq')]
        clear hq'
        go_wp2
        refine wp_region_ords [0, 1, 2, 3, 4, 5] [] [] (by kernel_rfl) (by kernel_rfl) (fun d _ _ _ _ h => by cases d <;> exact h) ?_
        simp only [List.map_cons, List.map_nil, List.getD_cons_zero, List.getD_cons_succ]
        repeat (go_big_quiet_step (fail))
        refine wpQuiet_nil ?_
        refine wpMid_nil ?_
        go_wp2
        go_ret
        exact ⟨ret_int HN.out.symm, by (repeat (first | exact bl_refl | assumption | (apply bl_then; assumption) | refine bl_alloc ?_ _ | refine bl_drew ?_ | refine bl_drewN ?_ _))⟩
    · have hkl : k = l.length := by omega
      have HN : Hid (placeP (x, y, s) l 0 = -1) := by unfold Hid; rw [H.out, hkl, List.drop_length]; rfl
      go_wp2
      go_ret
      exact ⟨ret_int HN.out.symm, by (repeat (first | exact bl_refl | assumption | (apply bl_then; assumption) | refine bl_alloc ?_ _ | refine bl_drew ?_ | refine bl_drewN ?_ _))⟩
end Go.Proofs.YthcnngoaijgnoaaGreat

/- The bars that a walk passes, of the reference, walked. Conditions: knots within bounds. -/
namespace Go.Proofs.YthcnngoaijgnoaaGreat
open Go.RowKit Go.ChangeMaps
set_option maxHeartbeats 4000000
set_option maxRecDepth 100000

theorem passes_any {v : Value} (l : List Knot) (w : World) (h : SlK w v l) (hnear : ∀ k ∈ l, nearK k) (hlen : l.length ≤ 100000) : Calls Tryz.prog 118 #[v] w (RB w (passP l)) := by
  obtain ⟨A, c, rfl, hlc, hcm, h⟩ := h
  have hl : l.length ≤ maxLen := Nat.le_trans hlc hcm
  unfold maxLen at hl
  obtain ⟨m, hm⟩ : ∃ m, l.length - 1 = m := ⟨_, rfl⟩
  have HN := Lib.hid hnear
  clear hnear
  go_enter Tryz.func118, Tryz.ntmps118
  go_wp2
  go_loopw [3, 4] (fun o i wr => ∃ (k : Nat) (acc : List Bar), k ≤ m ∧ i = .int .i64 ((k : Int) + 1) ∧ acc.length = k ∧ Hid (acc ++ passP (l.drop k) = passP l) ∧ OwB w.heap.size wr o acc ∧ Below w.heap.size w wr) (fun _ i _ => m + 1 - (intOf i).toNat)
  case atStart => exact ⟨0, [], Nat.zero_le _, rfl, rfl, rfl, Own.nil_, by (repeat (first | exact bl_refl | assumption | (apply bl_then; assumption) | refine bl_alloc ?_ _ | refine bl_drew ?_ | refine bl_drewN ?_ _))⟩
  case round =>
    obtain ⟨k, acc, hk, rfl, hal, H, hown, hbw⟩ := hrel
    have HAL := Lib.hid hal
    have hal2 : acc.length ≤ 1000000 := by omega
    clear hal
    by_cases hlt : k < m
    · have hr := h.below hbw
      have hlt1 : k < l.length := by omega
      have hlt2 : k + 1 < l.length := by omega
      obtain ⟨b, off, rfl, hb, e0, e1⟩ := hr.knot hlt1
      obtain ⟨_, e2, e3⟩ := hr.knotAt hlt2
      have hnk : nearK (l[k].1, l[k].2) := HN.out _ (List.getElem_mem hlt1)
      have hnk2 : nearK (l[k + 1].1, l[k + 1].2) := HN.out _ (List.getElem_mem hlt2)
      have hbt := fun W => rbetween_any l[k].1 l[k].2 l[k + 1].1 l[k + 1].2 hnk hnk2 W
      obtain ⟨g, hg⟩ : ∃ g, rAdj (l[k].1, l[k].2) (l[k + 1].1, l[k + 1].2) = g := ⟨_, rfl⟩
      have hbe : btwB (l[k].1, l[k].2) (l[k + 1].1, l[k + 1].2) = btwB l[k] l[k + 1] := rfl
      obtain ⟨⟨bx, by_, bs⟩, hbb⟩ : ∃ z, btwB l[k] l[k + 1] = z := ⟨_, rfl⟩
      rw [hbe, hbb, hg] at hbt
      have HB : Hid ((acc ++ [(bx, by_, bs)]) ++ passP (l.drop (k + 1)) = passP l) := by
        unfold Hid
        rw [← H.out, passP_drop hlt2, hbb, List.append_assoc]; rfl
      have hkt : ((k : Int) + 1 < (l.length : Int)) = True := by simp; omega
      clear hbe hbb hg H
      go_wp2
      refine wp_region_tree [0, 1, 2, 3, 4, 5, 6, 7, 8] (.alt (.br 9 (.take 10 (.take 11 (.take 12 (.alt (.br 13 (.alt (.br 14 (.fin) (.stop))) (.stop)))))) (.br 13 (.alt (.br 9 (.take 10 (.take 11 (.take 12 (.alt (.br 14 (.fin) (.stop)))))) (.stop))) (.stop)))) [15] (by kernel_rfl) (by kernel_rfl) (fun d _ _ _ _ h => by cases d <;> exact h) ?_
      simp only [List.map_cons, List.map_nil, List.getD_cons_zero, List.getD_cons_succ]
      repeat (go_big_quiet_step (fail))
      refine wpQuiet_nil ?_
      refine wpTree_alt (wpTree_br rfl rfl ?_ (wpTree_br rfl rfl ?_ wpTree_stop))
      · intro K hK
        go_simp
        refine (hbt _).mono ?_
        rintro e w4 ⟨rfl, hb4⟩
        refine hK _ _ (by (repeat (first | exact bl_refl | assumption | (apply bl_then; assumption) | refine bl_alloc ?_ _ | refine bl_drew ?_ | refine bl_drewN ?_ _))) ?_
        clear hK K
        refine wpTree_take rfl rfl ?_
        intro K hK; simp only [Array.getD_eq_getD_getElem?, List.getElem?_toArray, List.getElem?_cons_succ, List.getElem?_cons_zero, Option.getD_some]; go_big_quiet_op; go_big_quiet_on
        refine wpTree_take rfl rfl ?_
        intro K hK; simp only [Array.getD_eq_getD_getElem?, List.getElem?_toArray, List.getElem?_cons_succ, List.getElem?_cons_zero, Option.getD_some]; go_big_quiet_op; go_big_quiet_on
        refine wpTree_take rfl rfl ?_
        intro K hK; simp only [Array.getD_eq_getD_getElem?, List.getElem?_toArray, List.getElem?_cons_succ, List.getElem?_cons_zero, Option.getD_some]; go_big_quiet_op; go_big_quiet_on
        refine wpTree_alt (wpTree_br rfl rfl ?_ wpTree_stop)
        intro K hK
        go_simp
        refine hK _ _ (by (repeat (first | exact bl_refl | assumption | (apply bl_then; assumption) | refine bl_alloc ?_ _ | refine bl_drew ?_ | refine bl_drewN ?_ _))) ?_
        clear hK K
        refine wpTree_alt (wpTree_br rfl rfl ?_ wpTree_stop)
        intro K hK
        go_simp
        refine hK _ _ (by (repeat (first | exact bl_refl | assumption | (apply bl_then; assumption) | refine bl_alloc ?_ _ | refine bl_drew ?_ | refine bl_drewN ?_ _))) ?_
        clear hK K
        refine wpTree_fin ?_
        have hown4 := (hown.below (bl_d hb4)).alloc (.cells #[.int .i64 bx, .int .i64 by_, .int .i64 bs] 70)
        have hbw4 : Below w.heap.size w (w4.alloc (.cells #[.int .i64 bx, .int .i64 by_, .int .i64 bs] 70)) := by (repeat (first | exact bl_refl | assumption | (apply bl_then; assumption) | refine bl_alloc ?_ _ | refine bl_drew ?_ | refine bl_drewN ?_ _))
        go_wp2_with (at_builtin; refine wpList_appB1 hown4 rfl _ _ rfl rfl rfl (by simp) (by omega) hbw4.size ?_; intro v6 w6 hown6 hgr6)
        have hbw6 := own_step hown4 hgr6 (by (repeat (first | exact bl_refl | assumption | (apply bl_then; assumption) | refine bl_alloc ?_ _ | refine bl_drew ?_ | refine bl_drewN ?_ _)))
        go_roundw
        case rel => exact ⟨k + 1, acc ++ [(bx, by_, bs)], by omega, by go_num, by simp [HAL.out], HB, hown6, hbw6⟩
        case measure => simp [intOf]; omega
      · intro K hK
        go_simp
        refine hK _ _ (by (repeat (first | exact bl_refl | assumption | (apply bl_then; assumption) | refine bl_alloc ?_ _ | refine bl_drew ?_ | refine bl_drewN ?_ _))) ?_
        clear hK K
        refine wpTree_alt (wpTree_br rfl rfl ?_ wpTree_stop)
        intro K hK
        go_simp
        refine (hbt _).mono ?_
        rintro e w4 ⟨rfl, hb4⟩
        refine hK _ _ (by (repeat (first | exact bl_refl | assumption | (apply bl_then; assumption) | refine bl_alloc ?_ _ | refine bl_drew ?_ | refine bl_drewN ?_ _))) ?_
        clear hK K
        have hBb := (Blk.new wr 70 #[.int .i64 0, .int .i64 0, .int .i64 0]).below (bl_d hb4)
        have fBb := hBb.facts
        refine wpTree_take rfl rfl ?_
        intro K hK; simp only [Array.getD_eq_getD_getElem?, List.getElem?_toArray, List.getElem?_cons_succ, List.getElem?_cons_zero, Option.getD_some]; go_big_quiet_op; go_big_quiet_on
        refine wpTree_take rfl rfl ?_
        intro K hK; simp only [Array.getD_eq_getD_getElem?, List.getElem?_toArray, List.getElem?_cons_succ, List.getElem?_cons_zero, Option.getD_some]; go_big_quiet_op; go_big_quiet_on
        refine wpTree_take rfl rfl ?_
        intro K hK; simp only [Array.getD_eq_getD_getElem?, List.getElem?_toArray, List.getElem?_cons_succ, List.getElem?_cons_zero, Option.getD_some]; go_big_quiet_op; go_big_quiet_on
        refine wpTree_alt (wpTree_br rfl rfl ?_ wpTree_stop)
        intro K hK
        go_simp
        refine hK _ _ ?_ ?_
        · exact bl_set3 (by (repeat (first | exact bl_refl | assumption | (apply bl_then; assumption) | refine bl_alloc ?_ _ | refine bl_drew ?_ | refine bl_drewN ?_ _))) (Nat.le_refl _) _ _ _
        clear hK K
        refine wpTree_fin ?_
        have hbS : Below w.heap.size w (((w4.setCell ⟨wr.heap.size, 0, none⟩ (.int .i64 bx)).setCell ⟨wr.heap.size, 1, none⟩ (.int .i64 by_)).setCell ⟨wr.heap.size, 2, none⟩ (.int .i64 bs)) := bl_set3 (by (repeat (first | exact bl_refl | assumption | (apply bl_then; assumption) | refine bl_alloc ?_ _ | refine bl_drew ?_ | refine bl_drewN ?_ _))) hbw.size _ _ _
        have hown4 := hown.below (bl_set3 (bl_a (bl_d hb4)) (Nat.le_refl _) (.int .i64 bx) (.int .i64 by_) (.int .i64 bs))
        have hBs := ((hBb.set_ 0 (.int .i64 bx)).set_ 1 (.int .i64 by_)).set_ 2 (.int .i64 bs)
        have fBs := hBs.facts
        go_wp2_with (at_builtin; refine wpList_appB1 hown4 rfl _ _ rfl rfl rfl (by simp) (by omega) hbS.size ?_; intro v6 w6 hown6 hgr6)
        have hbw6 := own_step hown4 hgr6 (by (repeat (first | exact bl_refl | assumption | (apply bl_then; assumption) | refine bl_alloc ?_ _ | refine bl_drew ?_ | refine bl_drewN ?_ _)))
        go_roundw
        case rel => exact ⟨k + 1, acc ++ [(bx, by_, bs)], by omega, by go_num, by simp [HAL.out], HB, hown6, hbw6⟩
        case measure => simp [intOf]; omega
    · have hkm : k = m := by omega
      have hkt : ((k : Int) + 1 < (l.length : Int)) = False := by simp; omega
      have hE := Lib.hid (passP_end (l := l) (k := k) (by omega))
      go_wp2
      go_ret
      exact ⟨_, rfl, by have := H.out; rw [hE.out, List.append_nil] at this; rw [← this]; exact hown, hbw⟩
end Go.Proofs.YthcnngoaijgnoaaGreat

/- Whether a walk is a run, of the reference, walked. Conditions: knots within bounds, at least one. -/
namespace Go.Proofs.YthcnngoaijgnoaaGreat
open Go.RowKit Go.ChangeMaps
set_option maxHeartbeats 4000000
set_option maxRecDepth 100000

@[go_sem] theorem idx_bars0 (a b c d e f : Int) (w : World) : (Instr.index 165 (.agg #[.int .i64 a, .int .i64 b, .int .i64 c, .int .i64 d, .int .i64 e, .int .i64 f]) (.int .i64 0)).run Tryz.prog w = .ok (.agg #[.int .i64 a, .int .i64 b, .int .i64 c]) w := by kernel_rfl
def runOk (D : List Bar) (W : List Knot) (k : Knot) : Bool := !(cnt (legsAt D k) == 4 && decide (placeP (armB k 2) (passP W) 0 < placeP (armB k 0) (passP W) 0))
theorem all_dropK (f : Knot → Bool) {l : List Knot} {k : Nat} (hk : k < l.length) : (l.drop k).all f = (f l[k] && (l.drop (k + 1)).all f) := by
  rw [List.drop_eq_getElem_cons hk]; rfl
theorem risRun_any {v u z : Value} (D : List Bar) (W : List Knot) (w : World) (hD : SlB w u D) (hW : SlK w z W) (hne : W ≠ []) (hnear : ∀ k ∈ W, nearK k) (hlen : W.length ≤ 100000) :
    Calls Tryz.prog 91 #[.agg #[v, u], z] w (RV w (.bool (isRunP D W))) := by
  have hB := Blk.new w 24 #[v, u]
  have hD0 := hD.alloc (.cells #[v, u] 24)
  have hW0 := hW.alloc (.cells #[v, u] 24)
  have hl0 : 0 < W.length := by cases W with
    | nil => exact absurd rfl hne
    | cons a r => simp
  have HN := Lib.hid hnear
  obtain ⟨A, c, rfl, hlc, hcm, hr⟩ := hW
  obtain ⟨A2, c2, rfl, hlc2, hcm2, hr2⟩ := hD
  obtain ⟨t, ht⟩ : ∃ t, W.length = t + 1 := ⟨W.length - 1, by omega⟩
  have htl : t < W.length := by omega
  obtain ⟨⟨lx, ly⟩, hlast⟩ : ∃ k, W[t] = k := ⟨_, rfl⟩
  have hnl : nearK (lx, ly) := by rw [← hlast]; exact hnear _ (List.getElem_mem htl)
  have hgl : W.getLastD (0, 0) = (lx, ly) := by
    rw [← hlast, List.getLastD_eq_getLast?, List.getLast?_eq_getElem?, ht, Nat.add_sub_cancel, List.getElem?_eq_getElem htl]; rfl
  have hcell : ∀ X, SlK X (.slice A W.length c) W → ∃ b off, A = some ⟨b, off, none⟩ ∧ X.cell? ⟨b, off + t * 2, none⟩ = some (.int .i64 lx) ∧ X.cell? ⟨b, off + t * 2 + 1, none⟩ = some (.int .i64 ly) ∧ b < X.heap.size := by
    intro X hX
    obtain ⟨A', c', he, _, _, hr'⟩ := hX
    obtain ⟨b, off, he', hb, e0, e1⟩ := hr'.knot htl
    rw [hlast] at e0 e1
    exact ⟨b, off, by rw [(Value.slice.inj he).1]; exact he', e0, e1, hb⟩
  have HI : Hid (isRunP D W = ((passP W).length == D.length && missN D (lx, ly) == 1 && W.all (runOk D W))) := by
    unfold Hid isRunP runOk missN
    rw [hgl]
  have hlm : (W.length : Int) - 1 = (t : Int) := by omega
  have HT := Lib.hid ht
  clear hne hnear hr hr2 hlast hgl ht
  by_cases hq1 : (passP W).length = D.length
  · have hq1' : (((passP W).length : Int) != (D.length : Int)) = false := by simp [hq1]
    have hq1b : ((passP W).length == D.length) = true := by simp [hq1]
    obtain ⟨q2, hq2⟩ : ∃ q, (((missN D (lx, ly) : Nat) : Int) != 1) = q := ⟨_, rfl⟩
    have hq2b : (missN D (lx, ly) == 1) = !q2 := by
      rw [← hq2, Bool.eq_iff_iff]
      simp
      omega
    have HI2 : Hid (isRunP D W = (!q2 && W.all (runOk D W))) := by unfold Hid; rw [HI.out, hq1b, hq2b]; rfl
    have hms := fun (v : Value) X (hX : SlB X (.slice A2 D.length c2) D) => missing_any (v := v) D lx ly X hX (by unfold nearK at hnl; simp only at hnl; omega) (by unfold nearK at hnl; simp only at hnl; omega)
    clear hq1 hq2b hq1b
    go_enter Tryz.func91, Tryz.ntmps91
    go_wp2_with (go_at_call 118; refine (passes_any W _ hW0 HN.out hlen).mono ?_; rintro e w1 ⟨v1, rfl, hown1, hb1⟩; obtain ⟨A1, c1, rfl⟩ := hown1.shape; have hB1 := hB.below hb1; have f1 := hB1.facts; have hD1 := hD0.below hb1; have hW1 := hW0.below hb1; obtain ⟨b, off, rfl, k0, k1, kb⟩ := hcell _ hW1)
    cases q2
    · refine wp_region_ords [0, 1, 2, 3, 4, 5, 6, 7, 8, 9, 10, 11, 12, 13] [] [14, 15, 16] (by kernel_rfl) (by kernel_rfl) (fun d _ _ _ _ h => by cases d <;> exact h) ?_
      simp only [List.map_cons, List.map_nil, List.getD_cons_zero, List.getD_cons_succ]
      repeat (go_big_quiet_step (fail))
      refine wpQuiet_nil ?_
      refine wpMid_nil ?_
      go_wp2_with (go_at_call 26; refine (hms _ _ hD1.drew).mono ?_; rintro e w2 ⟨rfl, hb2⟩)
      have hB2 := hB1.below (bl_d hb2)
      have hD2 := hD1.below (bl_d hb2)
      have hW2 := hW1.below (bl_d hb2)
      have hown2 := hown1.below (bl_d hb2)
      have hbw2 : Below w.heap.size w w2 := by (repeat (first | exact bl_refl | assumption | (apply bl_then; assumption) | refine bl_alloc ?_ _ | refine bl_drew ?_ | refine bl_drewN ?_ _))
      go_loopw [6] (fun i wr => ∃ k : Nat, k ≤ W.length ∧ i = .int .i64 k ∧ Hid (W.all (runOk D W) = (W.drop k).all (runOk D W)) ∧ Below w2.heap.size w2 wr) (fun i _ => W.length - (intOf i).toNat)
      case atStart => exact ⟨0, Nat.zero_le _, rfl, rfl, Below.refl _ _⟩
      case round =>
        obtain ⟨k, hk, rfl, H, hbw⟩ := hrel
        by_cases hlt : k < W.length
        · have hBr := hB2.below hbw
          have fB := hBr.facts
          have hDr := hD2.below hbw
          have hWr := hW2.below hbw
          have hor := hown2.below hbw
          obtain ⟨A', c', he, _, _, hr'⟩ := hWr
          obtain ⟨b', off', he', hb', e0, e1⟩ := hr'.knot hlt
          obtain ⟨rfl, rfl⟩ : b = b' ∧ off = off' := by have := (Value.slice.inj he).1.trans he'; simpa using this
          have hnk := HN.out _ (List.getElem_mem hlt)
          have HD := Lib.hid (all_dropK (runOk D W) hlt)
          obtain ⟨⟨kx, ky⟩, hkk⟩ : ∃ z, W[k] = z := ⟨_, rfl⟩
          rw [hkk] at hnk HD e0 e1
          have hnk' : (-1000000 ≤ kx ∧ kx ≤ 1000000) ∧ (-1000000 ≤ ky ∧ ky ≤ 1000000) := by unfold nearK at hnk; simp only at hnk; omega
          have hmk := fun X (hX : SlB X (.slice A2 D.length c2) D) => missing_any (v := v) D kx ky X hX hnk'.1 hnk'.2
          clear he he' hkk hnk k0 k1
          obtain ⟨q4, hq4⟩ : ∃ q, (((missN D (kx, ky) : Nat) : Int) == 4) = q := ⟨_, rfl⟩
          have hq4b : (cnt (legsAt D (kx, ky)) == 4) = q4 := by
            rw [← hq4, Bool.eq_iff_iff]
            unfold missN
            simp
            omega
          cases q4
          · have HR : Hid (runOk D W (kx, ky) = true) := by unfold Hid runOk; rw [hq4b]; rfl
            clear hq4b
            go_wp2
            refine wp_region_ords [0, 1, 2, 3, 4] [(5, false), (6, false), (7, false), (8, true), (9, true), (10, true), (11, true), (12, true), (16, true), (17, true), (18, true), (19, true), (20, true), (13, false), (14, false), (15, false), (21, false), (22, false)] [23, 24, 25] (by kernel_rfl) (by kernel_rfl) (fun d _ _ _ _ h => by cases d <;> exact h) ?_
            simp only [List.map_cons, List.map_nil, List.getD_cons_zero, List.getD_cons_succ]
            repeat (go_big_quiet_step (fail))
            refine wpQuiet_nil ?_
            refine wpMid_run rfl (fun K hK => ?_)
            go_simp
            refine (hmk _ hDr.drew).mono ?_
            rintro e w3 ⟨rfl, hb3⟩
            refine hK _ _ (by (repeat (first | exact bl_refl | assumption | (apply bl_then; assumption) | refine bl_alloc ?_ _ | refine bl_drew ?_ | refine bl_drewN ?_ _))) ?_
            clear hK K
            refine wpMid_run rfl (fun K hK => ?_)
            go_simp
            refine hK _ _ (by (repeat (first | exact bl_refl | assumption | (apply bl_then; assumption) | refine bl_alloc ?_ _ | refine bl_drew ?_ | refine bl_drewN ?_ _))) ?_
            clear hK K
            refine wpMid_run rfl (fun K hK => ?_)
            go_simp
            refine hK _ _ (by (repeat (first | exact bl_refl | assumption | (apply bl_then; assumption) | refine bl_alloc ?_ _ | refine bl_drew ?_ | refine bl_drewN ?_ _))) ?_
            clear hK K
            refine wpMid_skipT (by kernel_rfl) ?_
            intro K hK
            simp only [Act.put, List.setIfInBounds_toArray, List.set_cons_zero, List.set_cons_succ]
            refine hK _ ?_
            clear hK K
            refine wpMid_skipT (by kernel_rfl) ?_
            intro K hK
            simp only [Act.put, List.setIfInBounds_toArray, List.set_cons_zero, List.set_cons_succ]
            refine hK _ ?_
            clear hK K
            refine wpMid_skipT (by kernel_rfl) ?_
            intro K hK
            simp only [Act.put, List.setIfInBounds_toArray, List.set_cons_zero, List.set_cons_succ]
            refine hK _ ?_
            clear hK K
            refine wpMid_skipT (by kernel_rfl) ?_
            intro K hK
            simp only [Act.put, List.setIfInBounds_toArray, List.set_cons_zero, List.set_cons_succ]
            refine hK _ ?_
            clear hK K
            refine wpMid_skipT (by kernel_rfl) ?_
            intro K hK
            simp only [Act.put, List.setIfInBounds_toArray, List.set_cons_zero, List.set_cons_succ]
            refine hK _ ?_
            clear hK K
            refine wpMid_skipT (by kernel_rfl) ?_
            intro K hK
            simp only [Act.put, List.setIfInBounds_toArray, List.set_cons_zero, List.set_cons_succ]
            refine hK _ ?_
            clear hK K
            refine wpMid_skipT (by kernel_rfl) ?_
            intro K hK
            simp only [Act.put, List.setIfInBounds_toArray, List.set_cons_zero, List.set_cons_succ]
            refine hK _ ?_
            clear hK K
            refine wpMid_skipT (by kernel_rfl) ?_
            intro K hK
            simp only [Act.put, List.setIfInBounds_toArray, List.set_cons_zero, List.set_cons_succ]
            refine hK _ ?_
            clear hK K
            refine wpMid_skipT (by kernel_rfl) ?_
            intro K hK
            simp only [Act.put, List.setIfInBounds_toArray, List.set_cons_zero, List.set_cons_succ]
            refine hK _ ?_
            clear hK K
            refine wpMid_skipT (by kernel_rfl) ?_
            intro K hK
            simp only [Act.put, List.setIfInBounds_toArray, List.set_cons_zero, List.set_cons_succ]
            refine hK _ ?_
            clear hK K
            refine wpMid_skipF (by kernel_rfl) ?_
            intro K hK
            simp only [Act.put, List.setIfInBounds_toArray, List.set_cons_zero, List.set_cons_succ]
            refine hK _ ?_
            clear hK K
            refine wpMid_skipF (by kernel_rfl) ?_
            intro K hK
            simp only [Act.put, List.setIfInBounds_toArray, List.set_cons_zero, List.set_cons_succ]
            refine hK _ ?_
            clear hK K
            refine wpMid_skipF (by kernel_rfl) ?_
            intro K hK
            simp only [Act.put, List.setIfInBounds_toArray, List.set_cons_zero, List.set_cons_succ]
            refine hK _ ?_
            clear hK K
            refine wpMid_skipF (by kernel_rfl) ?_
            intro K hK
            simp only [Act.put, List.setIfInBounds_toArray, List.set_cons_zero, List.set_cons_succ]
            refine hK _ ?_
            clear hK K
            refine wpMid_skipF (by kernel_rfl) ?_
            intro K hK
            simp only [Act.put, List.setIfInBounds_toArray, List.set_cons_zero, List.set_cons_succ]
            refine hK _ ?_
            clear hK K
            refine wpMid_nil ?_
            go_wp2
            go_roundw
            case rel => exact ⟨k + 1, by omega, by go_num, by unfold Hid; rw [H.out, HD.out, HR.out]; rfl, by (repeat (first | exact bl_refl | assumption | (apply bl_then; assumption) | refine bl_alloc ?_ _ | refine bl_drew ?_ | refine bl_drewN ?_ _))⟩
            case measure => simp [intOf]; omega
          · obtain ⟨q5, hq5⟩ : ∃ q, decide (placeP (kx - 1, ky - 1, 1) (passP W) 0 < placeP (kx, ky, -1) (passP W) 0) = q := ⟨_, rfl⟩
            have HR : Hid (runOk D W (kx, ky) = !q5) := by
              have h5 : decide (placeP (armB (kx, ky) 2) (passP W) 0 < placeP (armB (kx, ky) 0) (passP W) 0) = q5 := hq5
              unfold Hid runOk
              rw [hq4b, h5]; rfl
            clear hq4b
            have HQ5 := Lib.hid hq5
            clear hq5
            go_wp2
            refine wp_region_ords [0, 1, 2, 3, 4] [(5, false), (6, false), (7, false), (8, true), (9, true), (10, true), (11, true), (12, true), (16, true), (17, true), (18, true), (19, true), (20, true), (13, false), (14, false), (15, false), (21, false), (22, false)] [23, 24, 25] (by kernel_rfl) (by kernel_rfl) (fun d _ _ _ _ h => by cases d <;> exact h) ?_
            simp only [List.map_cons, List.map_nil, List.getD_cons_zero, List.getD_cons_succ]
            repeat (go_big_quiet_step (fail))
            refine wpQuiet_nil ?_
            refine wpMid_run rfl (fun K hK => ?_)
            go_simp
            refine (hmk _ hDr.drew).mono ?_
            rintro e w3 ⟨rfl, hb3⟩
            refine hK _ _ (by (repeat (first | exact bl_refl | assumption | (apply bl_then; assumption) | refine bl_alloc ?_ _ | refine bl_drew ?_ | refine bl_drewN ?_ _))) ?_
            clear hK K
            have c0 := ((bl_d hb3).cell (p := ⟨b, off + k * 2, none⟩) hb').trans e0
            have c1' := ((bl_d hb3).cell (p := ⟨b, off + k * 2 + 1, none⟩) hb').trans e1
            have hb3' : b < w3.heap.size := Nat.lt_of_lt_of_le hb' (bl_d hb3).size
            have ho3 := hor.below (bl_d hb3)
            refine wpMid_run rfl (fun K hK => ?_)
            go_simp
            refine hK _ _ (by (repeat (first | exact bl_refl | assumption | (apply bl_then; assumption) | refine bl_alloc ?_ _ | refine bl_drew ?_ | refine bl_drewN ?_ _))) ?_
            clear hK K
            refine wpMid_run rfl (fun K hK => ?_)
            go_simp
            refine hK _ _ (by (repeat (first | exact bl_refl | assumption | (apply bl_then; assumption) | refine bl_alloc ?_ _ | refine bl_drew ?_ | refine bl_drewN ?_ _))) ?_
            clear hK K
            refine wpMid_take rfl ?_
            intro K hK
            go_big_quiet_op
            go_big_quiet_on
            refine wpMid_take rfl ?_
            intro K hK
            go_big_quiet_op
            go_big_quiet_on
            refine wpMid_take rfl ?_
            intro K hK
            go_big_quiet_op
            go_big_quiet_on
            refine wpMid_take rfl ?_
            intro K hK
            go_big_quiet_op
            go_big_quiet_on
            refine wpMid_take rfl ?_
            intro K hK
            go_big_quiet_op
            go_big_quiet_on
            refine wpMid_take rfl ?_
            intro K hK
            go_big_quiet_op
            go_big_quiet_on
            refine wpMid_take rfl ?_
            intro K hK
            go_big_quiet_op
            go_big_quiet_on
            refine wpMid_take rfl ?_
            intro K hK
            go_big_quiet_op
            go_big_quiet_on
            refine wpMid_take rfl ?_
            intro K hK
            go_big_quiet_op
            go_big_quiet_on
            refine wpMid_take rfl ?_
            intro K hK
            go_big_quiet_op
            go_big_quiet_on
            refine wpMid_run rfl (fun K hK => ?_)
            go_simp
            refine (rupp_any kx ky _).mono ?_
            rintro e w4 ⟨rfl, hb4⟩
            refine hK _ _ (by (repeat (first | exact bl_refl | assumption | (apply bl_then; assumption) | refine bl_alloc ?_ _ | refine bl_drew ?_ | refine bl_drewN ?_ _))) ?_
            clear hK K
            refine wpMid_run rfl (fun K hK => ?_)
            go_simp
            refine hK _ _ (by (repeat (first | exact bl_refl | assumption | (apply bl_then; assumption) | refine bl_alloc ?_ _ | refine bl_drew ?_ | refine bl_drewN ?_ _))) ?_
            clear hK K
            refine wpMid_run rfl (fun K hK => ?_)
            go_simp
            refine (rplace_any (passP W) kx ky (-1) _ ((ho3.below hb4).rd bc_len)).mono ?_
            rintro e w5 ⟨rfl, hb5⟩
            refine hK _ _ (by (repeat (first | exact bl_refl | assumption | (apply bl_then; assumption) | refine bl_alloc ?_ _ | refine bl_drew ?_ | refine bl_drewN ?_ _))) ?_
            clear hK K
            refine wpMid_run rfl (fun K hK => ?_)
            go_simp
            refine (rlow_any kx ky hnk'.1 hnk'.2 _).mono ?_
            rintro e w6 ⟨rfl, hb6⟩
            refine hK _ _ (by (repeat (first | exact bl_refl | assumption | (apply bl_then; assumption) | refine bl_alloc ?_ _ | refine bl_drew ?_ | refine bl_drewN ?_ _))) ?_
            clear hK K
            refine wpMid_run rfl (fun K hK => ?_)
            go_simp
            refine hK _ _ (by (repeat (first | exact bl_refl | assumption | (apply bl_then; assumption) | refine bl_alloc ?_ _ | refine bl_drew ?_ | refine bl_drewN ?_ _))) ?_
            clear hK K
            refine wpMid_nil ?_
            have ho6 := ((ho3.below hb4).below hb5).below hb6
            go_wp2_with (go_at_call 135; refine (rplace_any (passP W) (kx - 1) (ky - 1) 1 _ (ho6.rd bc_len)).mono ?_; rintro e w7 ⟨rfl, hb7⟩)
            · rename_i h5
              have h5' : q5 = true := by rw [← HQ5.out]; simpa using h5
              have HE : Hid (isRunP D W = false) := by unfold Hid; rw [HI2.out, H.out, HD.out, HR.out, h5']; rfl
              go_ret
              exact ⟨ret_bool HE.out.symm, by (repeat (first | exact bl_refl | assumption | (apply bl_then; assumption) | refine bl_alloc ?_ _ | refine bl_drew ?_ | refine bl_drewN ?_ _))⟩
            · rename_i h5
              have h5' : q5 = false := by rw [← HQ5.out]; simpa using h5
              have hbr : Below w2.heap.size w2 w7 := by (repeat (first | exact bl_refl | assumption | (apply bl_then; assumption) | refine bl_alloc ?_ _ | refine bl_drew ?_ | refine bl_drewN ?_ _))
              go_roundw
              case rel => exact ⟨k + 1, by omega, by go_num, by unfold Hid; rw [H.out, HD.out, HR.out, h5']; rfl, hbr⟩
              case measure => simp [intOf]; omega
        · have hkl : k = W.length := by omega
          have HE : Hid (isRunP D W = true) := by unfold Hid; rw [HI2.out, H.out, hkl, List.drop_length]; rfl
          go_wp2
          go_ret
          exact ⟨ret_bool HE.out.symm, by (repeat (first | exact bl_refl | assumption | (apply bl_then; assumption) | refine bl_alloc ?_ _ | refine bl_drew ?_ | refine bl_drewN ?_ _))⟩
    · refine wp_region_ords [0, 1, 2, 3, 4, 5, 6, 7, 8, 9, 10, 11, 12, 13] [] [14, 15, 16] (by kernel_rfl) (by kernel_rfl) (fun d _ _ _ _ h => by cases d <;> exact h) ?_
      simp only [List.map_cons, List.map_nil, List.getD_cons_zero, List.getD_cons_succ]
      repeat (go_big_quiet_step (fail))
      refine wpQuiet_nil ?_
      refine wpMid_nil ?_
      go_wp2_with (go_at_call 26; refine (hms _ _ hD1.drew).mono ?_; rintro e w2 ⟨rfl, hb2⟩)
      go_ret
      exact ⟨ret_bool HI2.out.symm, by (repeat (first | exact bl_refl | assumption | (apply bl_then; assumption) | refine bl_alloc ?_ _ | refine bl_drew ?_ | refine bl_drewN ?_ _))⟩
  · have hq1' : (((passP W).length : Int) != (D.length : Int)) = true := by simp; omega
    have hq1b : ((passP W).length == D.length) = false := by simp [hq1]
    have HI2 : Hid (isRunP D W = false) := by unfold Hid; rw [HI.out, hq1b]; rfl
    clear hq1 hq1b
    go_enter Tryz.func91, Tryz.ntmps91
    go_wp2_with (go_at_call 118; refine (passes_any W _ hW0 HN.out hlen).mono ?_; rintro e w1 ⟨v1, rfl, hown1, hb1⟩; obtain ⟨A1, c1, rfl⟩ := hown1.shape; have hB1 := hB.below hb1; have f1 := hB1.facts)
    refine wp_region_ords [0, 1, 2, 3, 4, 5, 6, 7, 8, 9, 10, 11, 12, 13] [] [14, 15, 16] (by kernel_rfl) (by kernel_rfl) (fun d _ _ _ _ h => by cases d <;> exact h) ?_
    simp only [List.map_cons, List.map_nil, List.getD_cons_zero, List.getD_cons_succ]
    repeat (go_big_quiet_step (fail))
    refine wpQuiet_nil ?_
    refine wpMid_nil ?_
    go_wp2
    go_ret
    exact ⟨ret_bool HI2.out.symm, by (repeat (first | exact bl_refl | assumption | (apply bl_then; assumption) | refine bl_alloc ?_ _ | refine bl_drew ?_ | refine bl_drewN ?_ _))⟩
end Go.Proofs.YthcnngoaijgnoaaGreat

/- How the reference's twine goes on at a knot, walked. Conditions: a knot within bounds; it came by one of its arms. -/
namespace Go.Proofs.YthcnngoaijgnoaaGreat
open Go.RowKit Go.ChangeMaps
set_option maxHeartbeats 4000000
set_option maxRecDepth 100000

theorem beq_arm (k : Knot) {i a : Nat} (hi : i < 4) (ha : a < 4) : beqB (armB k i).1 (armB k i).2.1 (armB k i).2.2 (armB k a).1 (armB k a).2.1 (armB k a).2.2 = decide (i = a) := by
  obtain ⟨x, y⟩ := k
  rw [beqB_bar]
  obtain rfl | rfl | rfl | rfl : i = 0 ∨ i = 1 ∨ i = 2 ∨ i = 3 := by omega
  all_goals
    obtain rfl | rfl | rfl | rfl : a = 0 ∨ a = 1 ∨ a = 2 ∨ a = 3 := by omega
    all_goals (simp [armB] <;> omega)
theorem onw_from {l : Legs} {b : Nat} (h : cnt l ≠ 4) : onw l b = onwFrom l b 0 := by
  unfold onw onwFrom
  rw [if_neg h]
  simp
theorem rnext_any {v u : Value} (D : List Bar) (x y : Int) (a : Nat) (ha : a < 4) (w : World) (hD : SlB w u D) (hx : -1000000 ≤ x ∧ x ≤ 1000000) (hy : -1000000 ≤ y ∧ y ≤ 1000000) :
    Calls Tryz.prog 90 #[.agg #[v, u], .agg #[.int .i64 x, .int .i64 y], .agg #[.int .i64 (armB (x, y) a).1, .int .i64 (armB (x, y) a).2.1, .int .i64 (armB (x, y) a).2.2]] w
      (RV w (.agg #[.int .i64 (armB (x, y) (onw (legsAt D (x, y)) a)).1, .int .i64 (armB (x, y) (onw (legsAt D (x, y)) a)).2.1, .int .i64 (armB (x, y) (onw (legsAt D (x, y)) a)).2.2])) := by
  obtain ⟨⟨ax, ay, az⟩, hab⟩ : ∃ z, armB (x, y) a = z := ⟨_, rfl⟩
  obtain ⟨⟨rx, ry, rs⟩, hrb⟩ : ∃ z, armB (x, y) (onw (legsAt D (x, y)) a) = z := ⟨_, rfl⟩
  rw [hab, hrb]
  have hT0 := (((Blk.new w 24 #[v, u]).alloc (.cells #[.int .i64 x, .int .i64 y] 26)).alloc (.cells #[.int .i64 ax, .int .i64 ay, .int .i64 az] 70)).alloc (.cells #[.int .i64 0, .int .i64 0, .int .i64 0] 70)
  have hK0 := ((Blk.new1 w (.cells #[v, u] 24) 26 #[.int .i64 x, .int .i64 y]).alloc (.cells #[.int .i64 ax, .int .i64 ay, .int .i64 az] 70)).alloc (.cells #[.int .i64 0, .int .i64 0, .int .i64 0] 70)
  have hC0 := (Blk.new2 w (.cells #[v, u] 24) (.cells #[.int .i64 x, .int .i64 y] 26) 70 #[.int .i64 ax, .int .i64 ay, .int .i64 az]).alloc (.cells #[.int .i64 0, .int .i64 0, .int .i64 0] 70)
  have hR0 := Blk.new3 w (.cells #[v, u] 24) (.cells #[.int .i64 x, .int .i64 y] 26) (.cells #[.int .i64 ax, .int .i64 ay, .int .i64 az] 70) 70 #[.int .i64 0, .int .i64 0, .int .i64 0]
  have fK := hK0.facts
  have hDr := (((hD.alloc (.cells #[v, u] 24)).alloc (.cells #[.int .i64 x, .int .i64 y] 26)).alloc (.cells #[.int .i64 ax, .int .i64 ay, .int .i64 az] 70)).alloc (.cells #[.int .i64 0, .int .i64 0, .int .i64 0] 70)
  have hms := fun (v : Value) X (hX : SlB X u D) => missing_any (v := v) D x y X hX hx hy
  obtain ⟨q, hq⟩ : ∃ q, (((missN D (x, y) : Nat) : Int) == 4) = q := ⟨_, rfl⟩
  have HQ : Hid (cnt (legsAt D (x, y)) = 4 ↔ q = true) := by
    unfold Hid
    rw [← hq]
    unfold missN
    simp
    omega
  have HAB := Lib.hid hab
  have HRB := Lib.hid hrb
  clear hab hrb
  cases q
  · have HON : Hid (onw (legsAt D (x, y)) a = onwFrom (legsAt D (x, y)) a 0) := onw_from (by intro h; have := HQ.out.1 h; cases this)
    go_enter Tryz.func90, Tryz.ntmps90
    go_wp2_with (first | (go_at_call 88; refine (four_any x y hx hy _).mono ?_; rintro e w1 ⟨rfl, hb1⟩; replace hT0 := (hT0.below hb1).alloc (.cells #[.int .i64 0, .int .i64 0, .int .i64 0, .int .i64 0, .int .i64 0, .int .i64 0, .int .i64 0, .int .i64 0, .int .i64 0, .int .i64 0, .int .i64 0, .int .i64 0] 120); replace hK0 := (hK0.below hb1).alloc (.cells #[.int .i64 0, .int .i64 0, .int .i64 0, .int .i64 0, .int .i64 0, .int .i64 0, .int .i64 0, .int .i64 0, .int .i64 0, .int .i64 0, .int .i64 0, .int .i64 0] 120); replace hC0 := (hC0.below hb1).alloc (.cells #[.int .i64 0, .int .i64 0, .int .i64 0, .int .i64 0, .int .i64 0, .int .i64 0, .int .i64 0, .int .i64 0, .int .i64 0, .int .i64 0, .int .i64 0, .int .i64 0] 120); replace hR0 := (hR0.below hb1).alloc (.cells #[.int .i64 0, .int .i64 0, .int .i64 0, .int .i64 0, .int .i64 0, .int .i64 0, .int .i64 0, .int .i64 0, .int .i64 0, .int .i64 0, .int .i64 0, .int .i64 0] 120); replace hDr := hDr.below hb1; have hz1 := hb1.size; simp only [World.size_alloc] at hz1) |
      (refine wpList_store_blk (Blk.new _ _ _) rfl _ _ _ rfl rfl rfl (by rfl) (by kernel_rfl) (by kernel_rfl) ?_; intro w2 hF2 hc2; replace hT0 := hT0.chg hc2 (by simp; omega); replace hK0 := hK0.chg hc2 (by simp; omega); replace hC0 := hC0.chg hc2 (by simp; omega); replace hR0 := hR0.chg hc2 (by simp; omega); have fT := hT0.facts; have fK := hK0.facts; have hb2 : Below w.heap.size w w2 := (((Chg.of_below (S := [w1.heap.size]) (show Below w.heap.size w w1 by (repeat (first | exact bl_refl | assumption | (apply bl_then; assumption) | refine bl_alloc ?_ _ | refine bl_drew ?_ | refine bl_drewN ?_ _)))).alloc (.cells #[.int .i64 0, .int .i64 0, .int .i64 0, .int .i64 0, .int .i64 0, .int .i64 0, .int .i64 0, .int .i64 0, .int .i64 0, .int .i64 0, .int .i64 0, .int .i64 0] 120)).trans hc2).below (by simp; omega) (Nat.le_refl _); have hD2 := hD.below hb2) |
      (go_at_call 26; refine (hms _ _ hD2).mono ?_; rintro e w3 ⟨rfl, hb3⟩))
    have hT3 := hT0.below hb3
    have hC3 := hC0.below hb3
    have hR3 := hR0.below hb3
    have hF3 := hF2.below hb3
    have hD3 := hD2.below hb3
    have hbw3 : Below w.heap.size w w3 := bl_then hb3 hb2
    have hne1 : ¬ w1.heap.size = w.heap.size + 1 + 1 + 1 := by omega
    go_loopw [9] (fun i wr => ∃ k : Nat, k ≤ 4 ∧ i = .int .i64 k ∧ Hid (onw (legsAt D (x, y)) a = onwFrom (legsAt D (x, y)) a k) ∧ Below w3.heap.size w3 wr) (fun i _ => 4 - (intOf i).toNat)
    case atStart => exact ⟨0, by omega, rfl, HON, Below.refl _ _⟩
    case round =>
      obtain ⟨k, hk, rfl, H, hbw⟩ := hrel
      have hCr := hC3.below hbw
      have hRr := hR3.below hbw
      have hTr := hT3.below hbw
      have hFr := hF3.below hbw
      have hDr' := hD3.below hbw
      have fC := hCr.facts
      by_cases hlt : k < 4
      · have f4 := four_cells (x := x) (y := y) hFr hlt
        have fF := hFr.facts.2
        have fT := hTr.facts
        have hbe := beq_arm (x, y) hlt ha
        rw [HAB.out] at hbe
        obtain ⟨⟨px, py, ps⟩, hp⟩ : ∃ z, armB (x, y) k = z := ⟨_, rfl⟩
        rw [hp] at f4 hbe
        simp only at f4 hbe
        have hlg := lget_legs D (x, y) hlt
        rw [hp] at hlg
        by_cases hka : k = a
        · have hbe2 : beqB px py ps ax ay az = true := by rw [hbe]; simp [hka]
          have HM : Hid (onwFrom (legsAt D (x, y)) a k = onwFrom (legsAt D (x, y)) a (k + 1)) := onwFrom_miss hlt (by intro h; exact h.2 hka.symm)
          clear hbe hka hlg hp
          go_wp2
          refine wp_region_ords [0, 1, 2, 3, 4, 5, 6, 7, 8, 9, 10] [] [11, 12] (by kernel_rfl) (by kernel_rfl) (fun d _ _ _ _ h => by cases d <;> exact h) ?_
          simp only [List.map_cons, List.map_nil, List.getD_cons_zero, List.getD_cons_succ]
          repeat (go_big_quiet_step (fail))
          refine wpQuiet_nil ?_
          refine wpMid_nil ?_
          go_wp2
          go_roundw
          case rel => exact ⟨k + 1, by omega, by go_num, by unfold Hid; rw [H.out, HM.out], by (repeat (first | exact bl_refl | assumption | (apply bl_then; assumption) | refine bl_alloc ?_ _ | refine bl_drew ?_ | refine bl_drewN ?_ _))⟩
          case measure => simp [intOf]; omega
        · have hbe2 : beqB px py ps ax ay az = false := by rw [hbe]; simp [hka]
          obtain ⟨g, hg⟩ : ∃ g, hasb D (px, py, ps) = g := ⟨_, rfl⟩
          have hh := fun X (hX : SlB X u D) => has_any D px py ps X hX
          rw [hg] at hlg hh
          have HP := Lib.hid hp
          cases g
          · have HM : Hid (onwFrom (legsAt D (x, y)) a k = onwFrom (legsAt D (x, y)) a (k + 1)) := onwFrom_miss hlt (by intro h; rw [hlg] at h; cases h.1)
            clear hbe hka hlg hp hg
            go_wp2
            refine wp_region_ords [0, 1, 2, 3, 4, 5, 6, 7, 8, 9, 10] [] [11, 12] (by kernel_rfl) (by kernel_rfl) (fun d _ _ _ _ h => by cases d <;> exact h) ?_
            simp only [List.map_cons, List.map_nil, List.getD_cons_zero, List.getD_cons_succ]
            repeat (go_big_quiet_step (fail))
            refine wpQuiet_nil ?_
            refine wpMid_nil ?_
            go_wp2_with (go_at_call 46; refine (hh _ hDr'.drew).mono ?_; rintro e w4 ⟨rfl, hb4⟩)
            go_roundw
            case rel => exact ⟨k + 1, by omega, by go_num, by unfold Hid; rw [H.out, HM.out], by (repeat (first | exact bl_refl | assumption | (apply bl_then; assumption) | refine bl_alloc ?_ _ | refine bl_drew ?_ | refine bl_drewN ?_ _))⟩
            case measure => simp [intOf]; omega
          · have HE : (px, py, ps) = (rx, ry, rs) := by
              rw [← hp, ← HRB.out, H.out, onwFrom_hit hlt hlg (fun e => hka e.symm)]
            obtain ⟨rfl, rfl, rfl⟩ : px = rx ∧ py = ry ∧ ps = rs := by simpa using HE
            clear hbe hka hlg hp hg HE
            go_wp2
            refine wp_region_ords [0, 1, 2, 3, 4, 5, 6, 7, 8, 9, 10] [] [11, 12] (by kernel_rfl) (by kernel_rfl) (fun d _ _ _ _ h => by cases d <;> exact h) ?_
            simp only [List.map_cons, List.map_nil, List.getD_cons_zero, List.getD_cons_succ]
            repeat (go_big_quiet_step (fail))
            refine wpQuiet_nil ?_
            refine wpMid_nil ?_
            go_wp2_with (first | (go_at_call 46; refine (hh _ hDr'.drew).mono ?_; rintro e w4 ⟨rfl, hb4⟩; have hF4 := hFr.below (bl_d hb4); have fF4 := hF4.facts.2; have f44 := four_cells (x := x) (y := y) hF4 hlt; rw [HP.out] at f44; simp only at f44; have hR4 := hRr.below (bl_d hb4)) |
              (refine wpList_store_blk hR4 rfl _ _ _ rfl rfl rfl (by rfl) (by kernel_rfl) (by kernel_rfl) ?_; intro w9 hR9 hc9; have f9 := hR9.facts))
            have hbw4 : Below w.heap.size w w4 := by (repeat (first | exact bl_refl | assumption | (apply bl_then; assumption) | refine bl_alloc ?_ _ | refine bl_drew ?_ | refine bl_drewN ?_ _))
            have hbw9 : Below w.heap.size w w9 := ((Chg.of_below (S := [w.heap.size + 1 + 1 + 1]) hbw4).trans hc9).below (by simp; omega) (Nat.le_refl _)
            refine bodyPost_ret (v := .agg #[.int .i64 px, .int .i64 py, .int .i64 ps]) (by simp [results, Tryz.results90, go_sem, f9]) rfl ?_
            exact ⟨rfl, hbw9⟩
      · have hk4 : k = 4 := by omega
        have HE : (ax, ay, az) = (rx, ry, rs) := by
          rw [← HAB.out, ← HRB.out, H.out, hk4]
          simp [onwFrom]
        obtain ⟨rfl, rfl, rfl⟩ : ax = rx ∧ ay = ry ∧ az = rs := by simpa using HE
        clear HE
        go_wp2_with (refine wpList_store_blk hRr rfl _ _ _ rfl rfl rfl (by rfl) (by kernel_rfl) (by kernel_rfl) ?_; intro w9 hR9 hc9; have f9 := hR9.facts)
        have hbwr : Below w.heap.size w wr := bl_then hbw hbw3
        have hbw9 : Below w.heap.size w w9 := ((Chg.of_below (S := [w.heap.size + 1 + 1 + 1]) hbwr).trans hc9).below (by simp; omega) (Nat.le_refl _)
        refine bodyPost_ret (v := .agg #[.int .i64 ax, .int .i64 ay, .int .i64 az]) (by simp [results, Tryz.results90, go_sem, f9]) rfl ?_
        exact ⟨rfl, hbw9⟩
  · go_enter Tryz.func90, Tryz.ntmps90
    go_wp2_with (first | (go_at_call 88; refine (four_any x y hx hy _).mono ?_; rintro e w1 ⟨rfl, hb1⟩; replace hT0 := (hT0.below hb1).alloc (.cells #[.int .i64 0, .int .i64 0, .int .i64 0, .int .i64 0, .int .i64 0, .int .i64 0, .int .i64 0, .int .i64 0, .int .i64 0, .int .i64 0, .int .i64 0, .int .i64 0] 120); replace hK0 := (hK0.below hb1).alloc (.cells #[.int .i64 0, .int .i64 0, .int .i64 0, .int .i64 0, .int .i64 0, .int .i64 0, .int .i64 0, .int .i64 0, .int .i64 0, .int .i64 0, .int .i64 0, .int .i64 0] 120); replace hC0 := (hC0.below hb1).alloc (.cells #[.int .i64 0, .int .i64 0, .int .i64 0, .int .i64 0, .int .i64 0, .int .i64 0, .int .i64 0, .int .i64 0, .int .i64 0, .int .i64 0, .int .i64 0, .int .i64 0] 120); replace hR0 := (hR0.below hb1).alloc (.cells #[.int .i64 0, .int .i64 0, .int .i64 0, .int .i64 0, .int .i64 0, .int .i64 0, .int .i64 0, .int .i64 0, .int .i64 0, .int .i64 0, .int .i64 0, .int .i64 0] 120); replace hDr := hDr.below hb1; have hz1 := hb1.size; simp only [World.size_alloc] at hz1) |
      (refine wpList_store_blk (Blk.new _ _ _) rfl _ _ _ rfl rfl rfl (by rfl) (by kernel_rfl) (by kernel_rfl) ?_; intro w2 hF2 hc2; replace hT0 := hT0.chg hc2 (by simp; omega); replace hK0 := hK0.chg hc2 (by simp; omega); replace hC0 := hC0.chg hc2 (by simp; omega); replace hR0 := hR0.chg hc2 (by simp; omega); have fT := hT0.facts; have fK := hK0.facts; have hb2 : Below w.heap.size w w2 := (((Chg.of_below (S := [w1.heap.size]) (show Below w.heap.size w w1 by (repeat (first | exact bl_refl | assumption | (apply bl_then; assumption) | refine bl_alloc ?_ _ | refine bl_drew ?_ | refine bl_drewN ?_ _)))).alloc (.cells #[.int .i64 0, .int .i64 0, .int .i64 0, .int .i64 0, .int .i64 0, .int .i64 0, .int .i64 0, .int .i64 0, .int .i64 0, .int .i64 0, .int .i64 0, .int .i64 0] 120)).trans hc2).below (by simp; omega) (Nat.le_refl _); have hD2 := hD.below hb2) |
      (go_at_call 26; refine (hms _ _ hD2).mono ?_; rintro e w3 ⟨rfl, hb3⟩))
    have hT3 := hT0.below hb3
    have hC3 := hC0.below hb3
    have hR3 := hR0.below hb3
    have hF3 := hF2.below hb3
    have hD3 := hD2.below hb3
    have hbw3 : Below w.heap.size w w3 := bl_then hb3 hb2
    have hne1 : ¬ w1.heap.size = w.heap.size + 1 + 1 + 1 := by omega
    go_loopw [8] (fun i wr => ∃ k : Nat, k ≤ a ∧ i = .int .i64 k ∧ Below w3.heap.size w3 wr) (fun i _ => 4 - (intOf i).toNat)
    case atStart => exact ⟨0, by omega, rfl, Below.refl _ _⟩
    case round =>
      obtain ⟨k, hk, rfl, hbw⟩ := hrel
      have hCr := hC3.below hbw
      have hRr := hR3.below hbw
      have hFr := hF3.below hbw
      have fC := hCr.facts
      have hlt : k < 4 := by omega
      have f4 := four_cells (x := x) (y := y) hFr hlt
      have fF := hFr.facts.2
      have hbe := beq_arm (x, y) hlt ha
      rw [HAB.out] at hbe
      obtain ⟨⟨px, py, ps⟩, hp⟩ : ∃ z, armB (x, y) k = z := ⟨_, rfl⟩
      rw [hp] at f4 hbe
      simp only at f4 hbe
      by_cases hka : k = a
      · have hbe2 : beqB px py ps ax ay az = true := by rw [hbe]; simp [hka]
        have HO : Hid (armB (x, y) (a ^^^ 1) = (rx, ry, rs)) := by
          unfold Hid
          rw [← HRB.out]
          unfold onw
          rw [if_pos (HQ.out.2 (by simp))]
        subst hka
        have hbwr : Below w.heap.size w wr.drew := bl_drew (bl_then hbw hbw3)
        have fF0 := hFr.facts
        clear hbe
        obtain rfl | rfl | rfl | rfl : k = 0 ∨ k = 1 ∨ k = 2 ∨ k = 3 := by omega
        · obtain ⟨rfl, rfl, rfl⟩ : x = px ∧ y = py ∧ (-1 : Int) = ps := by simpa [armB] using hp
          obtain ⟨rfl, rfl, rfl⟩ : x = rx ∧ y = ry ∧ (1 : Int) = rs := by simpa [armB] using HO.out
          clear f4 hp
          go_wp2
          refine wp_region_ords [0, 1, 2, 3, 4] [] [] (by kernel_rfl) (by kernel_rfl) (fun d _ _ _ _ h => by cases d <;> exact h) ?_
          simp only [List.map_cons, List.map_nil, List.getD_cons_zero, List.getD_cons_succ]
          repeat (go_big_quiet_step (fail))
          refine wpQuiet_nil ?_
          refine wpMid_nil ?_
          go_wp2_with (refine wpList_store_blk (hRr.below (bl_drew bl_refl)) rfl _ _ _ rfl rfl rfl (by rfl) (by kernel_rfl) (by kernel_rfl) ?_; intro w9 hR9 hc9; have f9 := hR9.facts)
          have hbw9 : Below w.heap.size w w9 := ((Chg.of_below (S := [w.heap.size + 1 + 1 + 1]) hbwr).trans hc9).below (by simp; omega) (Nat.le_refl _)
          refine bodyPost_ret (v := .agg #[.int .i64 (x), .int .i64 (y), .int .i64 (1)]) (by simp [results, Tryz.results90, go_sem, f9]) rfl ?_
          exact ⟨rfl, hbw9⟩
        · obtain ⟨rfl, rfl, rfl⟩ : x = px ∧ y = py ∧ (1 : Int) = ps := by simpa [armB] using hp
          obtain ⟨rfl, rfl, rfl⟩ : x = rx ∧ y = ry ∧ (-1 : Int) = rs := by simpa [armB] using HO.out
          clear f4 hp
          go_wp2
          refine wp_region_ords [0, 1, 2, 3, 4] [] [] (by kernel_rfl) (by kernel_rfl) (fun d _ _ _ _ h => by cases d <;> exact h) ?_
          simp only [List.map_cons, List.map_nil, List.getD_cons_zero, List.getD_cons_succ]
          repeat (go_big_quiet_step (fail))
          refine wpQuiet_nil ?_
          refine wpMid_nil ?_
          go_wp2_with (refine wpList_store_blk (hRr.below (bl_drew bl_refl)) rfl _ _ _ rfl rfl rfl (by rfl) (by kernel_rfl) (by kernel_rfl) ?_; intro w9 hR9 hc9; have f9 := hR9.facts)
          have hbw9 : Below w.heap.size w w9 := ((Chg.of_below (S := [w.heap.size + 1 + 1 + 1]) hbwr).trans hc9).below (by simp; omega) (Nat.le_refl _)
          refine bodyPost_ret (v := .agg #[.int .i64 (x), .int .i64 (y), .int .i64 (-1)]) (by simp [results, Tryz.results90, go_sem, f9]) rfl ?_
          exact ⟨rfl, hbw9⟩
        · obtain ⟨rfl, rfl, rfl⟩ : x - 1 = px ∧ y - 1 = py ∧ (1 : Int) = ps := by simpa [armB] using hp
          obtain ⟨rfl, rfl, rfl⟩ : x + 1 = rx ∧ y - 1 = ry ∧ (-1 : Int) = rs := by simpa [armB] using HO.out
          clear f4 hp
          go_wp2
          refine wp_region_ords [0, 1, 2, 3, 4] [] [] (by kernel_rfl) (by kernel_rfl) (fun d _ _ _ _ h => by cases d <;> exact h) ?_
          simp only [List.map_cons, List.map_nil, List.getD_cons_zero, List.getD_cons_succ]
          repeat (go_big_quiet_step (fail))
          refine wpQuiet_nil ?_
          refine wpMid_nil ?_
          go_wp2_with (refine wpList_store_blk (hRr.below (bl_drew bl_refl)) rfl _ _ _ rfl rfl rfl (by rfl) (by kernel_rfl) (by kernel_rfl) ?_; intro w9 hR9 hc9; have f9 := hR9.facts)
          have hbw9 : Below w.heap.size w w9 := ((Chg.of_below (S := [w.heap.size + 1 + 1 + 1]) hbwr).trans hc9).below (by simp; omega) (Nat.le_refl _)
          refine bodyPost_ret (v := .agg #[.int .i64 (x + 1), .int .i64 (y - 1), .int .i64 (-1)]) (by simp [results, Tryz.results90, go_sem, f9]) rfl ?_
          exact ⟨rfl, hbw9⟩
        · obtain ⟨rfl, rfl, rfl⟩ : x + 1 = px ∧ y - 1 = py ∧ (-1 : Int) = ps := by simpa [armB] using hp
          obtain ⟨rfl, rfl, rfl⟩ : x - 1 = rx ∧ y - 1 = ry ∧ (1 : Int) = rs := by simpa [armB] using HO.out
          clear f4 hp
          go_wp2
          refine wp_region_ords [0, 1, 2, 3, 4] [] [] (by kernel_rfl) (by kernel_rfl) (fun d _ _ _ _ h => by cases d <;> exact h) ?_
          simp only [List.map_cons, List.map_nil, List.getD_cons_zero, List.getD_cons_succ]
          repeat (go_big_quiet_step (fail))
          refine wpQuiet_nil ?_
          refine wpMid_nil ?_
          go_wp2_with (refine wpList_store_blk (hRr.below (bl_drew bl_refl)) rfl _ _ _ rfl rfl rfl (by rfl) (by kernel_rfl) (by kernel_rfl) ?_; intro w9 hR9 hc9; have f9 := hR9.facts)
          have hbw9 : Below w.heap.size w w9 := ((Chg.of_below (S := [w.heap.size + 1 + 1 + 1]) hbwr).trans hc9).below (by simp; omega) (Nat.le_refl _)
          refine bodyPost_ret (v := .agg #[.int .i64 (x - 1), .int .i64 (y - 1), .int .i64 (1)]) (by simp [results, Tryz.results90, go_sem, f9]) rfl ?_
          exact ⟨rfl, hbw9⟩
      · have hbe2 : beqB px py ps ax ay az = false := by rw [hbe]; simp [hka]
        have hk2 : k + 1 ≤ a := by omega
        clear hbe hka hp
        go_wp2
        refine wp_region_ords [0, 1, 2, 3, 4] [] [] (by kernel_rfl) (by kernel_rfl) (fun d _ _ _ _ h => by cases d <;> exact h) ?_
        simp only [List.map_cons, List.map_nil, List.getD_cons_zero, List.getD_cons_succ]
        repeat (go_big_quiet_step (fail))
        refine wpQuiet_nil ?_
        refine wpMid_nil ?_
        go_wp2
        go_roundw
        case rel => exact ⟨k + 1, hk2, by go_num, by (repeat (first | exact bl_refl | assumption | (apply bl_then; assumption) | refine bl_alloc ?_ _ | refine bl_drew ?_ | refine bl_drewN ?_ _))⟩
        case measure => simp [intOf]; omega
end Go.Proofs.YthcnngoaijgnoaaGreat

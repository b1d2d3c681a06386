/- The letters of a side collected, walked. Conditions: bounds. -/
import Derived.Test.YtkkefahobjlagaaGreatDoorQ16
import Derived.Test.YtkkefahobjlagaaGreatDoorQ11
namespace Go.Proofs.YtkkefahobjlagaaGreatDoor
open Go.RowKit Go.ChangeMaps
set_option maxHeartbeats 4000000
set_option maxRecDepth 100000
attribute [local go_sem] Oper.semAt_some
theorem wpListIn_appS1 {F : Fence} {n : Nat} {ops : Array Oper} {rest : List Oper} {o : Oper} {a : Act} {Q : Exit → Act → World → Prop} {base : Nat} {W : World} {v : Value} {x : Stp} {l : List Stp} (hown : Own sc 2 base 127 W v l) {g : Nat} (hgd : o.guard = none) (s y : Operand)
  (ho : o.op = .call { callee := .builtin .append, args := #[s, y], argTypes := #[124, 124] })
  (hs : a.eval s = v) (hx : a.eval y = .slice (some ⟨g, 0, none⟩) 1 1) (hg : W.heap.size = g) (hlen : l.length ≤ 1000000) (hbase : base ≤ W.heap.size)
  (h : ∀ v' w', Own sc 2 base 127 w' v' (l ++ [x]) → (W.alloc (.cells #[.int .u8 x.1.toNat, .bool x.2] 127)).grownBy w' v.ownBlock → wpListIn F n Tryz.prog ops Q rest (a.put o.dst v') w') :
  wpListIn F n Tryz.prog ops Q (o :: rest) a (W.alloc (.cells #[.int .u8 x.1.toNat, .bool x.2] 127)) := by
 subst hg
 exact wpListIn_app hgd lett_elem sc_len sc_one s y ho base v _ l [x] hs hx (hown.alloc _) (Sl.oneG W _ x _ rfl) (by simp [maxLen]; omega) (by simp; omega) (by simp; omega) h
theorem appendSeqS_any (B : Nat) (A : Option Addr) (c : Nat) (l : List Edg) (hs : sideOk l) (w : World) (hB : Blk w B 28 #[.slice A l.length c]) (hr : Rd ec 3 w A l) :
  Calls Tryz.prog 127 #[.slice none 0 0, .func (.func 128) #[] #[.pointer (some ⟨B, 0, none⟩)]] w (RG sc 2 127 w (stpL l)) := by
 obtain ⟨hs1, hs2, hs3⟩ := hs
 refine (callsIn_wide (n := 6)).1 ?_
 refine callsIn_of_wp_marks Tryz.func127 rfl trivial ?_ rfl
 simp only [Tryz.ntmps127, List.size_toArray, List.length_cons, List.length_nil, Nat.reduceAdd, Nat.reduceSub, Array.replicate_succ, Array.replicate_zero, List.push_toArray, List.append_toArray, List.nil_append, List.cons_append]
 gi_wp2
 have hBx := Blk.new w 124 #[.slice none 0 0]
 have hb1 : Below w.heap.size w (w.alloc (.cells #[.slice none 0 0] 124)) := bl_alloc bl_refl _
 have hsz : (w.alloc (.cells #[.slice none 0 0] 124)).heap.size = w.heap.size + 1 := by simp
 obtain ⟨w1, hw1⟩ : ∃ X, w.alloc (.cells #[.slice none 0 0] 124) = X := ⟨_, rfl⟩
 rw [hw1] at hBx hb1 hsz ⊢
 have hBl := hB.lt
 have hw0 : ∀ b off, A = some ⟨b, off, none⟩ → 0 < l.length → b < w.heap.size := fun b off e h => by
  obtain ⟨b', off', e', hlt, _⟩ := hr 0 _ (List.getElem?_eq_getElem h)
  rw [e] at e'
  cases e'
  exact hlt
 refine wpIn_rangeFunc_ownH rfl (by omega) (gf := 128) (lb := #[.pointer (some ⟨B, 0, none⟩)]) rfl trivial (enters_of Tryz.func128 (by kernel_rfl) rfl)
  (letters_stops 5 (by omega) [w.heap.size] w1.heap.size B A c l (by omega) hs2 hs3 w1 (fun b off e h => by have := hw0 b off e h; simp; omega) (hB.below hb1) (hr.below hb1)) keepT_t (keepT_b (Nat.le_refl _)) (Below.refl _ _) (fun _ => rfl)
  (fun pre W => (∃ u, Blk W w.heap.size 124 #[u] ∧ Own sc 2 w1.heap.size 127 W u pre) ∧ Below w.heap.size w W ∧ w1.heap.size ≤ W.heap.size)
  (fun _ _ _ => False)
  (fun _ W W' row hs hg hr => by
   obtain ⟨⟨u, h1, h2⟩, h3, h4⟩ := hs
   exact ⟨⟨u, h1.grown hg (nc_blk h1 hr), h2.kept hg (nc_own h2 hr)⟩, bl_grown hg h3 (fun k e => by have := (hr k e).1; omega), Nat.le_trans h4 hg.size⟩)
  (fun _ _ _ _ _ hs _ _ => hs)
  ⟨⟨_, hBx, Own.nil_⟩, hb1, Nat.le_refl _⟩
  (fun x a' W => ∃ Bk, Blk W Bk 127 #[.int .u8 x.1.toNat, .bool x.2] ∧ w1.heap.size ≤ Bk ∧ a' = { tmps := #[.slice none 0 0, .func (.func 128) #[] #[.pointer (some ⟨B, 0, none⟩)], .pointer (some ⟨w.heap.size, 0, none⟩), undef, .slice none 0 0, .pointer (some ⟨Bk, 0, none⟩), .func (.func 128) #[] #[.pointer (some ⟨B, 0, none⟩)], .agg #[.int .u8 x.1.toNat, .bool x.2], undef, undef, undef, undef, undef], defers := [] })
  (fun x a' s W W' row hs hg hr => by
   obtain ⟨Bk, hX, hk, rfl⟩ := hs
   exact ⟨Bk, hX.grown hg (nc_blk hX hr), hk, rfl⟩) ?assign ?body ?done ?stop
 case assign =>
  rintro l pre x W K ⟨⟨u, hu1, hu2⟩, hbw, hs2⟩ hK
  unfold encY
  gi_wp2
  have hb2 : Below W.heap.size W (W.alloc (.cells #[.int .u8 x.1.toNat, .bool x.2] 127)) := bl_alloc bl_refl _
  exact hK _ _ (keeps_of_below hb2) (KeepT.of_below hb2 hs2) ⟨⟨u, hu1.below hb2, hu2.below hb2⟩, bl_then hb2 hbw, Nat.le_trans hs2 hb2.size⟩ ⟨W.heap.size, Blk.new W _ _, hs2, rfl⟩
 case body =>
  rintro l pre x a' W _ _ ⟨⟨u, hu1, hu2⟩, hbw, hs2⟩ ⟨Bk, hX, hk, rfl⟩ hlt
  have fk := hX.facts
  have fo := hu1.facts
  gi_wp2_with (gi_at_builtin; refine wpListIn_appS1 (x := x) hu2 rfl _ _ rfl rfl rfl rfl (by omega) hs2 ?_; intro v3 w3 hu3 hgr3; obtain ⟨A3, c3, rfl⟩ := hu3.shape; have hu13 := (hu1.alloc (.cells #[.int .u8 x.1.toNat, .bool x.2] 127)).grown hgr3 (hu2.ne_blk hu1 (by decide)); have fo3 := hu13.facts)
  simp only [List.length_append, List.length_cons, List.length_nil, Nat.zero_add] at hu3
  have hal : Below W.heap.size W (W.alloc (.cells #[.int .u8 x.1.toNat, .bool x.2] 127)) := bl_alloc bl_refl _
  have hsz2 : w1.heap.size ≤ (W.alloc (.cells #[.int .u8 x.1.toNat, .bool x.2] 127)).heap.size := Nat.le_trans hs2 hal.size
  have hbw3 : Below w.heap.size w w3 := bl_grown hgr3 (bl_then hal hbw) (fun k e => by have := (hu2.lt k e).1; omega)
  exact ⟨(keeps_of_below hal).trans ((keeps_grown (hu2.alloc _) hgr3).trans (keeps_set hu13 0 _)),
   (KeepT.of_below hal hs2).trans ((KeepT.of_grown (hu2.alloc _) (by decide) hgr3 hsz2 (fun k e => (hu2.lt k e).1)).trans (KeepT.of_set (by simp) hu13 (by decide))),
   ⟨_, hu13.set_ 0 _, hu3.set (Ne.symm (hu3.ne_blk hu13 (by decide))) _⟩, bl_set hbw3 (by simp) _, Nat.le_trans hsz2 (Nat.le_trans hgr3.size (by simp [World.setCell]))⟩
 case done =>
  rintro D' ys W hD rfl ⟨⟨u, hu1, hu2⟩, hbw, hs2⟩ hK
  have fo := hu1.facts
  gi_wp2
  refine ⟨by simp, .inl ⟨_, _, rfl, run_takeDeferred hK, ?_⟩⟩
  exact ⟨_, results_tmp rfl _ _ _, u, rfl, Own.base_mono (ownsRow_putObj hu2 _ hK rfl) (by omega), hbw.trans (belowK_b (w := w) (Nat.le_refl _) W D' _ _ (by omega) hK rfl rfl)⟩
 case stop =>
  rintro D' c pre W _ _ h _
  exact h.elim
theorem collectS_any (B : Nat) (A : Option Addr) (c : Nat) (l : List Edg) (hs : sideOk l) (w : World) (hB : Blk w B 28 #[.slice A l.length c]) (hr : Rd ec 3 w A l) :
  Calls Tryz.prog 66 #[.func (.func 128) #[] #[.pointer (some ⟨B, 0, none⟩)]] w (RG sc 2 127 w (stpL l)) := by
 go_enter Tryz.func66, Tryz.ntmps66
 go_wp2_with (go_at_call 127; refine (appendSeqS_any B A c l hs _ hB hr).mono ?_; rintro e w1 ⟨v, rfl, hO, hb⟩)
 go_ret
 exact ⟨v, rfl, hO, hb⟩
@[go_sem] theorem fldK1 (x y : Int) (w : World) : (Instr.field 40 (.agg #[.int .i64 x, .int .i64 y]) 1).run Tryz.prog w = .ok (.int .i64 y) w := by kernel_rfl
theorem out_last (p : Pan) (right : Bool) : (outP p right)[(outP p right).length - 1]? = some (posK right (fromP p right) (stpL (sideP p right))) := by
 unfold outP
 rw [outK_len]
 exact outK_last right _ _
theorem out_top (p : Pan) (right : Bool) : (posK right (fromP p right) (stpL (sideP p right))).2 = riseL (stpL (sideP p right)) := by
 rw [end_y]
 unfold fromP
 cases right <;> simp
theorem out_len (p : Pan) (right : Bool) (hs : sideOk (sideP p right)) : (outP p right).length ≤ 513 := by
 unfold outP
 rw [outK_len]
 have := hs.1
 omega
theorem height_any {vL vR : Value} (p : Pan) (w : World) (hL : SlE w vL p.2.2.1) (hR : SlE w vR p.2.2.2) (hw : -1000 ≤ p.2.1 ∧ p.2.1 ≤ 1000) (hs : sideOk p.2.2.1) :
  Calls Tryz.prog 63 #[.agg #[sV p.1, .int .i64 p.2.1, vL, vR]] w (RV w (.int .i64 (heightP p))) := by
 have HT : Hid ((posK false (fromP p false) (stpL (sideP p false))).2 = heightP p) := out_top p false
 have hl := out_last p false
 have hn := out_len p false hs
 obtain ⟨⟨tx, ty⟩, ht⟩ : ∃ z, posK false (fromP p false) (stpL (sideP p false)) = z := ⟨_, rfl⟩
 rw [ht] at hl HT
 have ho := fun W (hb : Below w.heap.size w W) => outline_any p false W (hL.below hb) (hR.below hb) hw hs
 obtain ⟨O, hO⟩ : ∃ O, outP p false = O := ⟨_, rfl⟩
 rw [hO] at hl hn ho
 have HL := Lib.hid hl
 obtain ⟨nm, wd, L, R⟩ := p
 obtain ⟨AL, cL, rfl, _, _, _⟩ := hL
 obtain ⟨AR, cR, rfl, _, _, _⟩ := hR
 unfold sV at ho ⊢
 simp only at ho
 have hP := Blk.new w 30 #[.string ⟨nm.toArray⟩, .int .i64 wd, .slice AL L.length cL, .slice AR R.length cR]
 have fP := hP.facts
 clear hl ht hO hw hs
 go_enter Tryz.func63, Tryz.ntmps63
 go_wp2_with fail
 refine (ho _ (by (repeat first|exact J0|assumption|(apply J1;assumption)|apply J2|apply J3|apply J4))).mono ?_
 rintro e w1 ⟨v1, rfl, hO1, hb1⟩
 obtain ⟨A1, c1, rfl⟩ := hO1.shape
 obtain ⟨_, _, he, _, _, hr1⟩ := hO1.rd kc_len
 obtain ⟨rfl, rfl⟩ : A1 = _ ∧ c1 = _ := by simpa using he
 go_wp2_with fail
 refine (top_any O _ _ _ hr1 (by omega) tx ty HL.out).mono ?_
 rintro e w2 ⟨rfl, hb2⟩
 go_wp2
 go_ret
 exact ⟨by rw [← HT.out]; rfl, by (repeat first|exact J0|assumption|(apply J1;assumption)|apply J2|apply J3|apply J4)⟩
end Go.Proofs.YtkkefahobjlagaaGreatDoor
namespace Go.Proofs.YtkkefahobjlagaaGreatDoor
open Go.RowKit Go.ChangeMaps
set_option maxHeartbeats 4000000
set_option maxRecDepth 100000
structure PanOk (p : Pan) : Prop where
 name : nameR p.1 = true
 wid : 1 ≤ p.2.1 ∧ p.2.1 ≤ 128
 left : SideOk p.2.2.1
 right : SideOk p.2.2.2
 same : riseL (stpL p.2.2.2) = heightP p
 high : 1 ≤ heightP p ∧ heightP p ≤ 256
 free : crossB (outP p false) (outP p true) ((heightP p).toNat + 1) = false
theorem SideOk.sideOk {l : List Edg} (h : SideOk l) : sideOk l :=
 ⟨h.len, by have := h.few; omega, fun e he => by
  obtain ⟨_, h2, _, h4, h5⟩ := edgE_zero (h.ok e he)
  exact ⟨by omega, h5, h2⟩⟩
theorem PanOk.side {p : Pan} (h : PanOk p) (right : Bool) : sideOk (sideP p right) := by
 cases right
 ·exact h.left.sideOk
 ·exact h.right.sideOk
theorem PanOk.wid' {p : Pan} (h : PanOk p) : -1000 ≤ p.2.1 ∧ p.2.1 ≤ 1000 := by
 have := h.wid
 omega
theorem PanOk.asc {p : Pan} (h : PanOk p) (right : Bool) : Asc (outP p right) := outP_asc p right h.wid' (h.side right).1
theorem heightP_range (p : Pan) : 0 ≤ heightP p ∧ heightP p ≤ 2 * (stpL p.2.2.1).length := riseL_range _
theorem panE0_zero {p : Pan} (h : panE0 p = 0) : nameR p.1 = true ∧ (1 ≤ p.2.1 ∧ p.2.1 ≤ 128) ∧ SideOk p.2.2.1 ∧ SideOk p.2.2.2 := by
 unfold panE0 at h
 simp only [firstI] at h
 split at h
 ·rename_i h1
  split at h
  ·rename_i h2
   split at h
   ·rename_i h3
    split at h
    ·rename_i h4
     refine ⟨?_, ?_, sideE_zero h3, sideE_zero h4⟩
     ·unfold whenI at h1
      split at h1
      ·omega
      ·rename_i q
       simpa using q
     ·unfold withinI whenI at h2
      split at h2
      ·omega
      ·rename_i q
       simp only [decide_eq_true_eq, Bool.or_eq_true, not_or] at q
       omega
    ·rename_i h4; exact absurd h h4
   ·rename_i h3; exact absurd h h3
  ·rename_i h2; exact absurd h h2
 ·rename_i h1; exact absurd h h1
theorem panE1_zero {p : Pan} (h : panE1 p = 0) : riseL (stpL p.2.2.2) = heightP p ∧ heightP p ≠ 0 ∧ heightP p ≤ 256 := by
 unfold panE1 at h
 simp only [firstI] at h
 split at h
 ·rename_i h1
  split at h
  ·rename_i h2
   split at h
   ·rename_i h3
    unfold whenI at h1 h2 h3
    split at h1
    ·omega
    ·split at h2
     ·omega
     ·split at h3
      ·omega
      ·rename_i q1 q2 q3
       simp only [decide_eq_true_eq] at q1 q2 q3
       omega
   ·rename_i h3; exact absurd h h3
  ·rename_i h2; exact absurd h h2
 ·rename_i h1; exact absurd h h1
theorem panE_zero {p : Pan} (h : panE p = 0) : PanOk p := by
 unfold panE at h
 split at h
 ·rename_i h0; exact absurd h h0
 ·rename_i h0
  split at h
  ·rename_i h1; exact absurd h h1
  ·rename_i h1
   obtain ⟨a1, a2, a3, a4⟩ := panE0_zero (by simpa using h0)
   obtain ⟨b1, b2, b3⟩ := panE1_zero (by simpa using h1)
   have := (heightP_range p).1
   refine ⟨a1, a2, a3, a4, b1, ⟨by omega, b3⟩, ?_⟩
   unfold whenI at h
   split at h
   ·omega
   ·rename_i q
    simpa using q
theorem out_top' (p : Pan) (right : Bool) (h : PanOk p) : (posK right (fromP p right) (stpL (sideP p right))).2 = heightP p := by
 rw [out_top]
 cases right
 ·rfl
 ·exact h.same
theorem out_end (p : Pan) (right : Bool) (h : PanOk p) : ∀ hi : (outP p right).length - 1 < (outP p right).length, (outP p right)[(outP p right).length - 1].2 = heightP p := by
 intro hi
 have := out_last p right
 rw [List.getElem?_eq_getElem hi] at this
 rw [Option.some.inj this, out_top' p right h]
def nearS (s : Strp) : Prop := (-100000 ≤ s.1 ∧ s.1 ≤ 100000) ∧ (-100000 ≤ s.2.1 ∧ s.2.1 ≤ 100000) ∧ (-100000 ≤ s.2.2.1 ∧ s.2.2.1 ≤ 100000) ∧ (-100000 ≤ s.2.2.2 ∧ s.2.2.2 ≤ 100000)
theorem plcGo_near (y : Int) : ∀ (r : List Knot) (k : Knot), (∀ x ∈ k :: r, -100000 ≤ x.1 ∧ x.1 ≤ 100000) → (-100000 ≤ (plcGo y k r).1 ∧ (plcGo y k r).1 ≤ 100000) ∧ (-100000 ≤ (plcGo y k r).2 ∧ (plcGo y k r).2 ≤ 100000)
 | [], k, _ => by simp [plcGo]
 | n :: r, k, h => by
  have hk := h k (by simp)
  have hn := h n (by simp)
  unfold plcGo
  split
  ·split
   ·exact ⟨hk, hn⟩
   ·exact ⟨hn, hn⟩
  ·exact plcGo_near y r n fun x hx => h x (List.mem_cons_of_mem _ hx)
theorem plcI_near {l : List Knot} (h : Asc l) (y : Int) : (-100000 ≤ (plcI l y).1 ∧ (plcI l y).1 ≤ 100000) ∧ (-100000 ≤ (plcI l y).2 ∧ (plcI l y).2 ≤ 100000) := by
 have hk : ∀ x ∈ l, -100000 ≤ x.1 ∧ x.1 ≤ 100000 := by
  intro k hk
  obtain ⟨i, hi, rfl⟩ := List.getElem_of_mem hk
  have := h.near i hi
  omega
 cases l with
 | nil => exact absurd h.ne (by simp)
 | cons k r => exact plcGo_near y r k hk
theorem strips_near {p : Pan} (h : PanOk p) : ∀ s ∈ strips p, nearS s := by
 intro s hs
 unfold strips at hs
 obtain ⟨y, _, rfl⟩ := List.mem_map.1 hs
 have h1 := plcI_near (h.asc false) (y : Nat)
 have h2 := plcI_near (h.asc true) (y : Nat)
 exact ⟨h1.1, h2.1, h1.2, h2.2⟩
theorem strips_len (p : Pan) : (strips p).length = (heightP p).toNat := by unfold strips; simp
theorem strips_le {p : Pan} (h : PanOk p) : (strips p).length ≤ 256 := by
 rw [strips_len]
 have := h.high
 omega
theorem areaS_snoc {l : List Strp} {k : Nat} (hk : k < l.length) : areaS (l.take (k + 1)) = areaS (l.take k) + (l[k].2.1 - l[k].1 + (l[k].2.2.2 - l[k].2.2.1)) := by
 unfold areaS
 rw [List.take_succ_eq_append_getElem hk, List.map_append, List.sum_append]
 simp only [List.map_cons, List.map_nil, List.sum_cons, List.sum_nil, Int.add_zero]
theorem areaS_near {l : List Strp} (h : ∀ s ∈ l, nearS s) : ∀ k : Nat, k ≤ l.length → -(400000 * (k : Int)) ≤ areaS (l.take k) ∧ areaS (l.take k) ≤ 400000 * (k : Int)
 | 0, _ => by simp [areaS]
 | k + 1, hk => by
  have ih := areaS_near h k (by omega)
  have hs := h _ (List.getElem_mem (show k < l.length by omega))
  rw [areaS_snoc (by omega)]
  unfold nearS at hs
  push_cast
  omega
def barAt (s : Strp) (y x side : Int) : List Bar := if s.2.2.1 ≤ x + side ∧ x + side ≤ s.2.2.2 then [(x, y, side)] else []
def barAts (s : Strp) (y x : Int) : Nat → List Bar
 | 0 => []
 | 1 => barAt s y x (-1)
 | _ => barAt s y x (-1) ++ barAt s y x 1
theorem barsX_even {s : Strp} {y x : Int} (h : (x + y) % 2 = 0) : barsX s y x = barAts s y x 2 := by
 unfold barsX barAts barAt
 rw [if_neg (by simpa using h)]
 rfl
theorem barsX_odd {s : Strp} {y x : Int} (h : (x + y) % 2 ≠ 0) : barsX s y x = [] := by
 unfold barsX
 rw [if_pos h]
theorem barAt_len (s : Strp) (y x side : Int) : (barAt s y x side).length ≤ 1 := by
 unfold barAt
 split <;> simp
theorem barAts_len (s : Strp) (y x : Int) : ∀ j, (barAts s y x j).length ≤ 2
 | 0 => by simp [barAts]
 | 1 => Nat.le_trans (barAt_len ..) (by omega)
 | j + 2 => by
  have h1 := barAt_len s y x (-1)
  have h2 := barAt_len s y x 1
  show (barAt s y x (-1) ++ barAt s y x 1).length ≤ 2
  rw [List.length_append]
  omega
theorem barsX_len (s : Strp) (y x : Int) : (barsX s y x).length ≤ 2 := by
 by_cases h : (x + y) % 2 = 0
 ·rw [barsX_even h]
  exact barAts_len ..
 ·rw [barsX_odd h]
  simp
theorem barsN_len (s : Strp) (y : Int) : ∀ n, (barsN s y n).length ≤ 2 * n
 | 0 => by simp [barsN]
 | n + 1 => by
  have h1 := barsN_len s y n
  have h2 := barsX_len s y (s.1 + (n : Int))
  rw [barsN, List.length_append]
  omega
theorem barsS_len {s : Strp} (h : nearS s) (y : Int) : (barsS s y).length ≤ 400002 := by
 have := barsN_len s y (s.2.1 - s.1 + 1).toNat
 unfold nearS at h
 unfold barsS
 omega
theorem netN_len {l : List Strp} (h : ∀ s ∈ l, nearS s) : ∀ n, n ≤ l.length → (netN l n).length ≤ 400002 * n
 | 0, _ => by simp [netN]
 | n + 1, hn => by
  have h1 := netN_len h n (by omega)
  have hs : nearS (l.getD n (0, 0, 0, 0)) := by
   rw [List.getD_eq_getElem?_getD, List.getElem?_eq_getElem (show n < l.length by omega), Option.getD_some]
   exact h _ (List.getElem_mem _)
  have h2 := barsS_len hs (n : Int)
  rw [netN, List.length_append]
  omega
theorem barAt_mem {s : Strp} {y x side : Int} {b : Bar} (h : b ∈ barAt s y x side) : b = (x, y, side) ∧ s.2.2.1 ≤ x + side ∧ x + side ≤ s.2.2.2 := by
 unfold barAt at h
 split at h
 ·rename_i hc
  exact ⟨by simpa using h, hc⟩
 ·cases h
theorem barsX_mem {s : Strp} {y x : Int} {b : Bar} (h : b ∈ barsX s y x) : b.1 = x ∧ b.2.1 = y ∧ (b.2.2 = -1 ∨ b.2.2 = 1) ∧ (x + y) % 2 = 0 ∧ s.2.2.1 ≤ x + b.2.2 ∧ x + b.2.2 ≤ s.2.2.2 := by
 by_cases he : (x + y) % 2 = 0
 ·rw [barsX_even he] at h
  rcases List.mem_append.1 h with h | h
  ·obtain ⟨rfl, h1, h2⟩ := barAt_mem h
   exact ⟨rfl, rfl, .inl rfl, he, h1, h2⟩
  ·obtain ⟨rfl, h1, h2⟩ := barAt_mem h
   exact ⟨rfl, rfl, .inr rfl, he, h1, h2⟩
 ·rw [barsX_odd he] at h
  cases h
theorem barsN_mem {s : Strp} {y : Int} {b : Bar} : ∀ n, b ∈ barsN s y n → ∃ m : Nat, m < n ∧ b ∈ barsX s y (s.1 + (m : Int))
 | 0, h => by cases h
 | n + 1, h => by
  rw [barsN] at h
  rcases List.mem_append.1 h with h | h
  ·obtain ⟨m, hm, h⟩ := barsN_mem n h
   exact ⟨m, by omega, h⟩
  ·exact ⟨n, by omega, h⟩
theorem barsS_mem {s : Strp} {y : Int} {b : Bar} (h : b ∈ barsS s y) : b.2.1 = y ∧ s.1 ≤ b.1 ∧ b.1 ≤ s.2.1 ∧ (b.2.2 = -1 ∨ b.2.2 = 1) ∧ (b.1 + y) % 2 = 0 ∧ s.2.2.1 ≤ b.1 + b.2.2 ∧ b.1 + b.2.2 ≤ s.2.2.2 := by
 obtain ⟨m, hm, h⟩ := barsN_mem _ h
 obtain ⟨h1, h2, h3, h4, h5, h6⟩ := barsX_mem h
 rw [← h1] at h4 h5 h6
 exact ⟨h2, by omega, by omega, h3, h4, h5, h6⟩
theorem netN_mem {l : List Strp} {b : Bar} : ∀ n, b ∈ netN l n → ∃ k : Nat, k < n ∧ b ∈ barsS (l.getD k (0, 0, 0, 0)) (k : Int)
 | 0, h => by cases h
 | n + 1, h => by
  rw [netN] at h
  rcases List.mem_append.1 h with h | h
  ·obtain ⟨m, hm, h⟩ := netN_mem n h
   exact ⟨m, by omega, h⟩
  ·exact ⟨n, by omega, h⟩
theorem netL_mem {p : Pan} (h : PanOk p) {b : Bar} (hb : b ∈ netL p) : ∃ k : Nat, b.2.1 = (k : Int) ∧ k < (heightP p).toNat ∧ (b.2.2 = -1 ∨ b.2.2 = 1) ∧ -100000 ≤ b.1 ∧ b.1 ≤ 100000 := by
 obtain ⟨k, hk, hm⟩ := netN_mem _ hb
 obtain ⟨h1, h2, h3, h4, _⟩ := barsS_mem hm
 have hs : nearS ((strips p).getD k (0, 0, 0, 0)) := by
  rw [List.getD_eq_getElem?_getD, List.getElem?_eq_getElem hk, Option.getD_some]
  exact strips_near h _ (List.getElem_mem _)
 rw [strips_len] at hk
 unfold nearS at hs
 exact ⟨k, h1, hk, h4, by omega, by omega⟩
def rowsStep (f : Nat → Int × Int) (b : Bar) : Nat → Int × Int := putF (putF f b.2.1.toNat b.1 false) (b.2.1.toNat + 1) (b.1 + b.2.2) false
def rowsF (l : List Bar) : Nat → Int × Int := l.foldl rowsStep fun _ => (4098, -4098)
def rowsL (p : Pan) : List (Int × Int) := (List.range ((heightP p).toNat + 1)).map (rowsF (netL p))
theorem rowsF_snoc {l : List Bar} {k : Nat} (hk : k < l.length) : rowsF (l.take (k + 1)) = rowsStep (rowsF (l.take k)) l[k] := by
 unfold rowsF
 rw [List.take_succ_eq_append_getElem hk, List.foldl_append]
 rfl
def initF (n : Nat) : Nat → Int × Int := fun z => if z < n then (4098, -4098) else (0, 0)
theorem initF_zero : initF 0 = fun _ => (0, 0) := by
 funext z
 unfold initF
 rw [if_neg (by omega)]
theorem initF_set (n : Nat) : (fun z => if z = n then (4098, -4098) else initF n z) = initF (n + 1) := by
 funext z
 unfold initF
 by_cases h : z = n
 ·rw [if_pos h, if_pos (by omega)]
 ·rw [if_neg h]
  by_cases h2 : z < n
  ·rw [if_pos h2, if_pos (by omega)]
  ·rw [if_neg h2, if_neg (by omega)]
theorem rowC_congr {n : Nat} {f g : Nat → Int × Int} (h : ∀ z, z < n → f z = g z) : (List.range n).map f = (List.range n).map g := List.map_congr_left fun z hz => h z (List.mem_range.1 hz)
def netErr (p : Pan) : Int := if panE p = 0 then whenI (decide (4096 < (netL p).length)) 5 else panE p
end Go.Proofs.YtkkefahobjlagaaGreatDoor
namespace Go.Proofs.YtkkefahobjlagaaGreatDoor
open Go.RowKit Go.ChangeMaps
set_option maxHeartbeats 4000000
set_option maxRecDepth 100000
attribute [local go_sem] Oper.semAt_some
def cornA (p : Pan) : Array Value := #[.int .i64 (fromP p false).1, .int .i64 (fromP p false).2, .int .i64 (fromP p true).1, .int .i64 (fromP p true).2,
 .int .i64 (posK false (fromP p false) (stpL p.2.2.1)).1, .int .i64 (posK false (fromP p false) (stpL p.2.2.1)).2, .int .i64 (posK true (fromP p true) (stpL p.2.2.2)).1, .int .i64 (posK true (fromP p true) (stpL p.2.2.2)).2]
theorem out_head (p : Pan) (right : Bool) : (outP p right)[0]? = some (fromP p right) := by
 unfold outP
 cases stpL (sideP p right) <;> rfl
def rowL (n : Nat) (f : Nat → Int × Int) : List (Int × Int) := (List.range n).map f
def rowC (n : Nat) (f : Nat → Int × Int) : Array Value := ((rowL n f).flatMap kc).toArray
theorem flat2_len : ∀ l : List (Int × Int), (l.flatMap kc).length = 2 * l.length
 | [] => rfl
 | a :: r => by rw [List.flatMap_cons, List.length_append, flat2_len r, List.length_cons]; simp [kc]; omega
theorem flat2_get : ∀ (l : List (Int × Int)) (i : Nat), (l.flatMap kc)[2 * i]? = (l[i]?).map (fun x => Value.int .i64 x.1) ∧ (l.flatMap kc)[2 * i + 1]? = (l[i]?).map (fun x => Value.int .i64 x.2)
 | [], i => by simp
 | a :: r, 0 => by simp [kc]
 | a :: r, i + 1 => by
  have ih := flat2_get r i
  have e : (a :: r).flatMap kc = .int .i64 a.1 :: .int .i64 a.2 :: r.flatMap kc := by simp [kc]
  rw [e]
  exact ⟨by rw [show 2 * (i + 1) = 2 * i + 1 + 1 by omega]; simpa using ih.1, by rw [show 2 * (i + 1) + 1 = 2 * i + 1 + 1 + 1 by omega]; simpa using ih.2⟩
theorem flat2_set : ∀ (l : List (Int × Int)) (i : Nat) (a b : Int), ((l.flatMap kc).set (2 * i) (.int .i64 a)).set (2 * i + 1) (.int .i64 b) = (l.set i (a, b)).flatMap kc
 | [], i, _, _ => by simp
 | x :: r, 0, _, _ => by simp [kc]
 | x :: r, i + 1, a, b => by
  have ih := flat2_set r i a b
  have e : (x :: r).flatMap kc = .int .i64 x.1 :: .int .i64 x.2 :: r.flatMap kc := by simp [kc]
  have e2 : ((x :: r).set (i + 1) (a, b)).flatMap kc = .int .i64 x.1 :: .int .i64 x.2 :: (r.set i (a, b)).flatMap kc := by simp [kc]
  rw [e, e2, ← ih, show 2 * (i + 1) = 2 * i + 1 + 1 by omega, show 2 * i + 1 + 1 + 1 = 2 * i + 1 + 1 + 1 by rfl]
  rfl
theorem rowL_len (n : Nat) (f : Nat → Int × Int) : (rowL n f).length = n := by unfold rowL; simp
theorem rowL_set {n y : Nat} (f : Nat → Int × Int) (p : Int × Int) : (rowL n f).set y p = rowL n (fun z => if z = y then p else f z) := by
 unfold rowL
 apply List.ext_getElem
 ·simp
 ·intro i h1 h2
  simp only [List.getElem_set, List.getElem_map, List.getElem_range]
  by_cases h : y = i
  ·rw [if_pos h, if_pos h.symm]
  ·rw [if_neg h, if_neg (fun e => h e.symm)]
theorem rowC_get {n y : Nat} (f : Nat → Int × Int) (hy : y < n) : (rowC n f)[2 * y]? = some (.int .i64 (f y).1) ∧ (rowC n f)[2 * y + 1]? = some (.int .i64 (f y).2) := by
 obtain ⟨h1, h2⟩ := flat2_get (rowL n f) y
 have e : (rowL n f)[y]? = some (f y) := by unfold rowL; simp [hy]
 rw [e] at h1 h2
 unfold rowC
 exact ⟨by simpa using h1, by simpa using h2⟩
theorem rowC_set {n y : Nat} (f : Nat → Int × Int) (a b : Int) : ((rowC n f).setIfInBounds (2 * y) (.int .i64 a)).setIfInBounds (2 * y + 1) (.int .i64 b) = rowC n (fun z => if z = y then (a, b) else f z) := by
 unfold rowC
 rw [List.setIfInBounds_toArray, List.setIfInBounds_toArray, flat2_set, rowL_set f]
theorem wpList_store_mid {P : Program} {ops : Array Oper} {rest : List Oper} {op : Oper} {a : Act} {Q : Exit → Act → World → Prop} {w : World} {g o : Nat} {t : TypeId} {cs cells : Array Value} (h : Blk w g t cs) (hgd : op.guard = none) (ty : TypeId) (x y : Operand) (ho : op.op = .store ty x y)
  (hx : a.eval x = .pointer (some ⟨g, o, none⟩)) (hy : a.eval y = .agg cells) (hsz : o + cells.size ≤ cs.size) (hi : (P.info? ty).map (·.size) = some cells.size) (h1 : cells.all (·.oneCell') = true)
  (hK : wpList P ops Q rest (a.put op.dst undef) (w.setCells g o cells.toList)) : wpList P ops Q (op :: rest) a w := by
 refine wpList_plain hgd fun K hK' => ?_
 have ht : w.there g o cells.size := fun j hj => by
  rw [h.cell, h.frozen]
  simp [show o + j < cs.size by omega]
 have hr := run_storeVar_mid (P := P) w g o ty cells ht hi h1
 unfold Oper.wp execOp
 simp only [ho, hx, hy, Instr.storeAt, Instr.sureAddr, Sem.run_bind, Sem.run_pure, Result.andThen_ok, hr]
 exact hK' _ _ hK
theorem Chg.setIn {S : List Nat} {w W : World} (h : Chg S w W) {p : Addr} (hp : p.block ∈ S) (u : Value) : Chg S w (W.setCell p u) :=
 h.trans ⟨rfl, rfl, rfl, by simp, fun k _ hn => Below.heap_setCell W p u k (by rintro rfl; exact hn hp)⟩
theorem rowC_size (n : Nat) (f : Nat → Int × Int) : (rowC n f).size = 2 * n := by
 unfold rowC
 rw [List.size_toArray, flat2_len, rowL_len]
theorem putR_any (B g n y : Nat) (f : Nat → Int × Int) (x : Int) (w : World) (hB : Blk w B 66 #[.slice (some ⟨g, 0, none⟩) n n]) (hg : Blk w g 73 (rowC n f)) (hy : y < n) :
  Calls Tryz.prog 170 #[.int .i64 y, .int .i64 x, .bool false, .pointer (some ⟨B, 0, none⟩)] w fun e w' => e = .returned (.tuple #[]) ∧ Blk w' g 73 (rowC n (putF f y x false)) ∧ Chg [g] w w' := by
 have fB := hB.facts
 have fg := hg.facts
 obtain ⟨g0, g1⟩ := rowC_get f hy
 have c0 : w.cell? ⟨g, y * 2, none⟩ = some (.int .i64 (f y).1) := by rw [hg.cell, Nat.mul_comm]; exact g0
 have c1 : w.cell? ⟨g, y * 2 + 1, none⟩ = some (.int .i64 (f y).2) := by rw [hg.cell, Nat.mul_comm]; exact g1
 clear g0 g1 fg
 have glt := hg.lt
 have ff := hg.frozen
 go_enter Tryz.func170, Tryz.ntmps170
 go_upto_region 2 with fail
 refine wp_region_ords [0, 1, 2, 3, 4, 5, 6, 7, 8, 9, 10, 11, 12, 13, 14, 15, 16, 17] [] [18] (by kernel_rfl) (by kernel_rfl) (fun d _ _ _ _ h => by cases d <;> exact h) ?_
 simp only [List.map_cons, List.map_nil, List.getD_cons_zero, List.getD_cons_succ]
 repeat (go_big_quiet_step (fail))
 refine wpQuiet_nil ?_
 refine wpMid_nil ?_
 go_wp2
 go_end0
 refine ⟨rfl, ?_, ((Chg.refl.setIn (p := ⟨g, y * 2, none⟩) (by simp) _).setIn (p := ⟨g, y * 2 + 1, none⟩) (by simp) _).drew⟩
 have h1 := (((hg.set_ (y * 2) (.int .i64 (min (f y).1 x))).set_ (y * 2 + 1) (.int .i64 (max (f y).2 x)))).drew
 rw [show y * 2 = 2 * y by omega, rowC_set] at h1
 rw [show y * 2 = 2 * y by omega]
 exact h1
theorem putS_any (B g n y : Nat) (f : Nat → Int × Int) (x : Int) (w : World) (hB : Blk w B 66 #[.slice (some ⟨g, 0, none⟩) n n]) (hg : Blk w g 73 (rowC n f)) (hy : y < n) :
  Calls Tryz.prog 170 #[.int .i64 y, .int .i64 x, .bool true, .pointer (some ⟨B, 0, none⟩)] w fun e w' => e = .returned (.tuple #[]) ∧ Blk w' g 73 (rowC n (putF f y x true)) ∧ Chg [g] w w' := by
 have fB := hB.facts
 have fg := hg.facts
 have glt := hg.lt
 have hg2 : Blk ((w.setCell ⟨g, y * 2, none⟩ (.int .i64 x)).setCell ⟨g, y * 2 + 1, none⟩ (.int .i64 x)) g 73 (rowC n (fun z => if z = y then (x, x) else f z)) := by
  have h1 := (hg.set_ (y * 2) (.int .i64 x)).set_ (y * 2 + 1) (.int .i64 x)
  rw [show y * 2 = 2 * y by omega, rowC_set] at h1
  rw [show y * 2 = 2 * y by omega]
  exact h1
 obtain ⟨g0, g1⟩ := rowC_get (f := fun z => if z = y then (x, x) else f z) hy
 simp only [if_true] at g0 g1
 have hne : B ≠ g := by
  rintro rfl
  unfold Blk at hB hg
  rw [hB] at hg
  simp at hg
 have hB2 : Blk ((w.setCell ⟨g, y * 2, none⟩ (.int .i64 x)).setCell ⟨g, y * 2 + 1, none⟩ (.int .i64 x)) B 66 #[.slice (some ⟨g, 0, none⟩) n n] := (hB.far (p := ⟨g, y * 2, none⟩) hne _).far (p := ⟨g, y * 2 + 1, none⟩) hne _
 obtain ⟨o0, o1⟩ := rowC_get f hy
 have c0 : w.cell? ⟨g, y * 2, none⟩ = some (.int .i64 (f y).1) := by rw [hg.cell, Nat.mul_comm]; exact o0
 have c1 : w.cell? ⟨g, y * 2 + 1, none⟩ = some (.int .i64 (f y).2) := by rw [hg.cell, Nat.mul_comm]; exact o1
 have hfr := hg.frozen
 have hfr2 : ∀ i, (w.setCell ⟨g, y * 2, none⟩ (.int .i64 x)).frozen? ⟨g, i, none⟩ = false := (hg.set_ (y * 2) (.int .i64 x)).frozen
 have HG0 := Lib.hid g0
 have HG1 := Lib.hid g1
 clear o0 o1 g0 g1
 go_enter Tryz.func170, Tryz.ntmps170
 go_upto_region 2 with (refine wpList_store_mid hg rfl _ _ _ rfl rfl rfl (by rw [rowC_size]; simp; omega) (by kernel_rfl) (by kernel_rfl) ?_)
 simp only [World.setCells, Act.put]
 obtain ⟨w2, hw2⟩ : ∃ X, (w.setCell ⟨g, y * 2, none⟩ (.int .i64 x)).setCell ⟨g, y * 2 + 1, none⟩ (.int .i64 x) = X := ⟨_, rfl⟩
 have hc2 : Chg [g] w w2 := by rw [← hw2]; exact ((Chg.refl.setIn (p := ⟨g, y * 2, none⟩) (by simp) _).setIn (p := ⟨g, y * 2 + 1, none⟩) (by simp) _)
 rw [hw2] at hg2 hB2 ⊢
 have fB2 := hB2.facts
 clear hw2 c0 c1 fB hfr hfr2
 have d0 : w2.cell? ⟨g, y * 2, none⟩ = some (.int .i64 x) := by rw [hg2.cell, Nat.mul_comm]; exact HG0.out
 have d1 : w2.cell? ⟨g, y * 2 + 1, none⟩ = some (.int .i64 x) := by rw [hg2.cell, Nat.mul_comm]; exact HG1.out
 have glt2 := hg2.lt
 clear glt hg hB hB2
 refine wp_region_ords [0, 1, 2, 3, 4, 5, 6, 7, 8, 9, 10, 11, 12, 13, 14, 15, 16, 17] [] [18] (by kernel_rfl) (by kernel_rfl) (fun d _ _ _ _ h => by cases d <;> exact h) ?_
 simp only [List.map_cons, List.map_nil, List.getD_cons_zero, List.getD_cons_succ]
 repeat (go_big_quiet_step (fail))
 refine wpQuiet_nil ?_
 refine wpMid_nil ?_
 go_wp2_with (refine wpList_store_mid hg2.drew rfl _ _ _ rfl rfl rfl (by rw [rowC_size]; simp; omega) (by kernel_rfl) (by kernel_rfl) ?_)
 simp only [World.setCells]
 go_end0
 have hc3 : Chg [g] w2 w2.drew := (Chg.refl : Chg [g] w2 w2).drew
 refine ⟨rfl, ?_, hc2.trans ((hc3.setIn (p := ⟨g, y * 2, none⟩) (by simp) _).setIn (p := ⟨g, y * 2 + 1, none⟩) (by simp) _)⟩
 have h3 := (hg2.drew.set_ (y * 2) (.int .i64 x)).set_ (y * 2 + 1) (.int .i64 x)
 rw [show y * 2 = 2 * y by omega, rowC_set] at h3
 rw [show y * 2 = 2 * y by omega]
 have e : (fun z => if z = y then (x, x) else if z = y then (x, x) else f z) = putF f y x true := by
  funext z
  unfold putF minmax
  by_cases h : z = y <;> simp [h]
 rw [e] at h3
 exact h3
end Go.Proofs.YtkkefahobjlagaaGreatDoor

/- Places around a panel, walked. Conditions: the panel is valid. -/
import Derived.Test.YtkkefahobjlagaaGreatDoorQ23
import Derived.Lib.AppendZerosOnto
import Derived.Deep.DeepAppendWide
namespace Go.Proofs.YtkkefahobjlagaaGreatDoor
open Go.RowKit Go.ChangeMaps
set_option maxHeartbeats 4000000
set_option maxRecDepth 100000
attribute [local go_sem] Oper.semAt_some
theorem wpList_append_run {P : Program} {ops : Array Oper} {rest : List Oper} {o : Oper} {a : Act} {Q : Exit → Act → World → Prop} {w w' : World} {v x y : Value} {ts : Array TypeId} (hgd : o.guard = none) (p q : Operand) (ho : o.op = .call { callee := .builtin .append, args := #[p, q], argTypes := ts }) (hp : a.eval p = x) (hq : a.eval q = y)
    (hr : ∀ ty, (Builtin.append_ ts ty #[x, y]).run P w = .ok v w') (h : wpList P ops Q rest (a.put o.dst v) w') : wpList P ops Q (o :: rest) a w := by
  refine wpList_plain hgd fun K hK' => ?_
  have hr := hr o.type
  unfold Oper.wp
  simp [execOp, ho, resolve, invoke, builtin, hp, hq, hr, Result.andThen]
  exact hK' _ _ h
theorem growK_any (n : Nat) (w : World) (h0 : 0 < n) (hn : n ≤ 100000) : Calls Tryz.prog 191 #[.slice none 0 0, .int .i64 n] w fun e w' =>
    ∃ G, e = .returned (.slice (some ⟨w.heap.size, 0, none⟩) 0 G) ∧ OwK w.heap.size w' (.slice (some ⟨w.heap.size, 0, none⟩) 0 G) [] ∧ Below w.heap.size w w' := by
  obtain ⟨i, hi⟩ : ∃ i, Tryz.prog.info? 40 = some i := ⟨_, rfl⟩
  obtain ⟨z, hz, hzs⟩ : ∃ z, i.zero = some z ∧ z.cells.size = 2 := by
    have : (Tryz.prog.info? 40).bind (·.zero) = some (.agg #[.int .i64 0, .int .i64 0]) := by kernel_rfl
    rw [hi] at this
    exact ⟨_, this, rfl⟩
  have hsb : i.size = 2 ∧ i.bytes = 16 := by
    have h1 : (Tryz.prog.info? 40).map (fun i => (i.size, i.bytes)) = some (2, 16) := by kernel_rfl
    rw [hi] at h1
    simpa using h1
  have hold : (Builtin.firstCells i.size 0 (.slice none 0 0)).run Tryz.prog w.drew = .ok #[] w.drew := run_firstCells_none w.drew i.size 0 0 0
  have hfit : Builtin.nextslicecap (0 + n) 0 * i.bytes ≤ 281474976710656 := growslice_fits_wide (by omega) (by rw [hsb.2]; omega)
  have hrz : ∀ ty, (Builtin.append_ #[93, 3] ty #[.slice none 0 0, .int .i64 (n : Int)]).run Tryz.prog w = _ := fun ty => Lib.run_append_grow_zeros w 93 3 ty 40 i z .i64 .i64 (by kernel_rfl) (by kernel_rfl) hi hz none 0 0 [] hold n (by omega) (by omega) (by omega) (by omega) (by rw [hsb.2]; omega) hfit
  have hG1 := grownCap_ge w (0 + n) 0 40
  have hG2 := grownCap_le_maxLen w (0 + n) 0 40 (by unfold maxLen; omega)
  obtain ⟨G, hG⟩ : ∃ G, grownCap w (0 + n) 0 40 = G := ⟨_, rfl⟩
  rw [hG] at hrz hG1 hG2
  obtain ⟨X, hX⟩ : ∃ X : Array Value, (([] : List Value).toArray ++ Builtin.zeroCells z.cells n ++ Builtin.zeroCells z.cells (G - (0 + n))) = X := ⟨_, rfl⟩
  have hXs : X.size = G * 2 := by
    rw [← hX]
    simp only [Array.size_append, size_zeroCells, hzs, List.size_toArray, List.length_nil]
    omega
  rw [hX] at hrz
  have hO : OwK w.heap.size (w.drew.alloc (.cells X 40)) (.slice (some ⟨w.heap.size, 0, none⟩) 0 G) [] :=
    ⟨rfl, .inr ⟨w.heap.size, G, X, rfl, Nat.le_refl _, heap_alloc_new w.drew _, Nat.zero_le _, hG2, hXs, by simp⟩⟩
  rw [Nat.zero_add] at hrz
  have hn0 : ¬ ((n : Int) < 0) := by omega
  have hn1 : 0 < (n : Int) := by omega
  have hb : Below w.heap.size w (w.drew.alloc (.cells X 40)) := bl_alloc (bl_drew bl_refl) _
  obtain ⟨w2, hw2⟩ : ∃ X', w.drew.alloc (.cells X 40) = X' := ⟨_, rfl⟩
  rw [hw2] at hrz hO hb
  clear hX hXs hold hfit hG hw2 hi hz hzs hsb
  go_enter Tryz.func191, Tryz.ntmps191
  go_wp2_with (at_builtin; refine wpList_append_run rfl _ _ rfl rfl rfl hrz ?_)
  go_ret
  exact ⟨G, rfl, hO, hb⟩
theorem concat2_any (a b : List Knot) (A B : Option Addr) (c d g c0 : Nat) (w : World) (hg : g < w.heap.size) (h0 : w.cell? ⟨g, 0, none⟩ = some (.slice A a.length c)) (h1 : w.cell? ⟨g, 1, none⟩ = some (.slice B b.length d))
  (hA : SlK w (.slice A a.length c) a) (hB : SlK w (.slice B b.length d) b) (hp : 0 < a.length) (hl : a.length ≤ 10000) (hl2 : b.length ≤ 10000) :
  Calls Tryz.prog 164 #[.slice (some ⟨g, 0, none⟩) 2 c0] w (RK w (a ++ b)) := by
 have hcast : (a.length : Int) + (b.length : Int) = ((a.length + b.length : Nat) : Int) := by push_cast; rfl
 have HC := Lib.hid hcast
 clear hcast
 have hz0 : ¬ ((a.length : Int) < 0) := by omega
 have hz1 : ¬ ((a.length : Int) + (b.length : Int) < 0) := by omega
 go_enter Tryz.func164, Tryz.ntmps164
 go_wp2
 go_loop [3, 11] (fun s3 s11 => (s3 = .int .i64 0 ∧ s11 = .int .i64 0) ∨ (s3 = .int .i64 a.length ∧ s11 = .int .i64 1) ∨ (s3 = .int .i64 ((a.length : Int) + (b.length : Int)) ∧ s11 = .int .i64 2)) (fun _ i => 2 - (intOf i).toNat)
 case atStart => exact .inl ⟨rfl, rfl⟩
 case round =>
  rcases hrel with ⟨rfl, rfl⟩ | ⟨rfl, rfl⟩ | ⟨rfl, rfl⟩
  ·go_wp2
   go_round
   case rel => exact .inr (.inl ⟨rfl, rfl⟩)
   case measure => simp [intOf]
  ·go_wp2
   go_round
   case rel => exact .inr (.inr ⟨rfl, rfl⟩)
   case measure => simp [intOf]
  ·have hgr := fun W => growK_any (a.length + b.length) W (by omega) (by omega)
   rw [← HC.out] at hgr
   go_wp2_with fail
   refine (hgr _).mono ?_
   rintro e w2 ⟨G, rfl, hO, hb2⟩
   clear hgr hz0 hz1
   go_wp2
   go_loopw [6, 27] (fun s6 s27 wr => ∃ l, ((l = [] ∧ s27 = .int .i64 0) ∨ (l = a ∧ s27 = .int .i64 1) ∨ (l = a ++ b ∧ s27 = .int .i64 2)) ∧ OwK w.heap.size wr s6 l ∧ Below w.heap.size w wr) (fun _ i _ => 2 - (intOf i).toNat)
   case atStart => exact ⟨[], .inl ⟨rfl, rfl⟩, hO, hb2⟩
   case round =>
    clear hO hb2
    obtain ⟨l, hl', hO, hbk⟩ := hrel
    obtain ⟨AO, cO, rfl⟩ := hO.shape
    have h20 : wr.cell? ⟨g, 0, none⟩ = some (.slice A a.length c) := (hbk.cell (p := ⟨g, 0, none⟩) hg).trans h0
    have h21 : wr.cell? ⟨g, 1, none⟩ = some (.slice B b.length d) := (hbk.cell (p := ⟨g, 1, none⟩) hg).trans h1
    have hg2 : g < wr.heap.size := Nat.lt_of_lt_of_le hg hbk.size
    rcases hl' with ⟨rfl, rfl⟩ | ⟨rfl, rfl⟩ | ⟨rfl, rfl⟩
    ·go_wp2_with (at_builtin; refine wpList_appKS hO (hA.below hbk) rfl _ _ rfl rfl rfl (by simp; omega) hbk.size ?_; intro v5 w5 hO5 hg5)
     go_roundw
     case rel => exact ⟨_, .inr (.inl ⟨by simp, rfl⟩), hO5, bl_grown hg5 hbk (fun k e => (hO.lt k e).1)⟩
     case measure => simp [intOf]
    ·go_wp2_with (at_builtin; refine wpList_appKS hO (hB.below hbk) rfl _ _ rfl rfl rfl (by omega) hbk.size ?_; intro v5 w5 hO5 hg5)
     go_roundw
     case rel => exact ⟨_, .inr (.inr ⟨rfl, rfl⟩), hO5, bl_grown hg5 hbk (fun k e => (hO.lt k e).1)⟩
     case measure => simp [intOf]
    ·go_wp2
     go_ret
     exact ⟨_, rfl, hO, hbk⟩
def lmF (l : List Knot) (a : Int × Int) : Int × Int := l.foldl (fun s k => minmax s k.1) a
theorem lmF_snoc {l : List Knot} {k : Nat} (hk : k < l.length) (a : Int × Int) : lmF (l.take (k + 1)) a = minmax (lmF (l.take k) a) l[k].1 := by
 unfold lmF
 rw [List.take_succ_eq_append_getElem hk, List.foldl_append]
 rfl
theorem lmF_near {l : List Knot} (h : ∀ k ∈ l, -100000 ≤ k.1 ∧ k.1 ≤ 100000) : ∀ (a : Int × Int), (-100000 ≤ a.1 ∧ a.1 ≤ 100000 ∧ -100000 ≤ a.2 ∧ a.2 ≤ 100000) → -100000 ≤ (lmF l a).1 ∧ (lmF l a).1 ≤ 100000 ∧ -100000 ≤ (lmF l a).2 ∧ (lmF l a).2 ≤ 100000 := by
 induction l with
 | nil => intro a ha; exact ha
 | cons x r ih =>
  intro a ha
  have hx := h x (List.mem_cons_self ..)
  refine ih (fun k hk => h k (List.mem_cons_of_mem _ hk)) _ ?_
  unfold minmax
  simp only
  omega
theorem lmF_le {l : List Knot} : ∀ (a : Int × Int), a.1 ≤ a.2 → (lmF l a).1 ≤ (lmF l a).2 := by
 induction l with
 | nil => intro a ha; exact ha
 | cons x r ih =>
  intro a ha
  refine ih _ ?_
  unfold minmax
  simp only
  omega
def allP (p : Pan) : List Knot := outP p false ++ outP p true
def lmP (p : Pan) : Int × Int := lmF (allP p) ((fromP p false).1, (fromP p false).1)
def frmX (p : Pan) : Int := if (lmP p).1 % 2 = 0 then (lmP p).1 else (lmP p).1 - 1
def frmC (p : Pan) : Int := ((lmP p).2 - frmX p + 1) / 2
def frmA (p : Pan) : Array Value := #[.int .i64 (frmX p), .int .i64 0, .int .i64 (frmC p), .int .i64 (heightP p)]
theorem around_any {vL vR : Value} (p : Pan) (w : World) (hL : SlE w vL p.2.2.1) (hR : SlE w vR p.2.2.2) (hok : PanOk p) :
  Calls Tryz.prog 110 #[.agg #[sV p.1, .int .i64 p.2.1, vL, vR]] w (RV w (.agg (frmA p))) := by
 have o1 := fun W (hb : Below w.heap.size w W) => outline_any p false W (hL.below hb) (hR.below hb) hok.wid' (hok.side false)
 have o2 := fun W (hb : Below w.heap.size w W) => outline_any p true W (hL.below hb) (hR.below hb) hok.wid' (hok.side true)
 have hh := fun W (hb : Below w.heap.size w W) => height_any p W (hL.below hb) (hR.below hb) hok.wid' (hok.side false)
 obtain ⟨H, hH⟩ : ∃ H : Nat, heightP p = H := ⟨(heightP p).toNat, by have := hok.high; omega⟩
 have hHb : H ≤ 256 := by have := hok.high; omega
 have l1 := out_len p false (hok.side false)
 have l2 := out_len p true (hok.side true)
 have p1 : 0 < (outP p false).length := (hok.asc false).ne
 have h1 := out_head p false
 have hal : ∀ k ∈ allP p, -100000 ≤ k.1 ∧ k.1 ≤ 100000 := by
  intro k hk
  rcases List.mem_append.1 hk with hk | hk
  ·obtain ⟨i, hi, rfl⟩ := List.getElem_of_mem hk
   have := (hok.asc false).near i hi
   omega
  ·obtain ⟨i, hi, rfl⟩ := List.getElem_of_mem hk
   have := (hok.asc true).near i hi
   omega
 have hx0 : (fromP p false).1 = 0 := rfl
 have HF : Hid (frmA p = #[.int .i64 (frmX p), .int .i64 0, .int .i64 (frmC p), .int .i64 H]) := by unfold Hid frmA; rw [hH]
 have HX : Hid (frmX p = if (lmP p).1 % 2 = 0 then (lmP p).1 else (lmP p).1 - 1) := rfl
 have HC : Hid (frmC p = ((lmP p).2 - frmX p + 1) / 2) := rfl
 have HLM : Hid (lmP p = lmF (allP p) (0, 0)) := by unfold Hid lmP; rw [hx0]
 have HALL : Hid (allP p = outP p false ++ outP p true) := rfl
 have hne := lmF_near hal (0, 0) (by simp)
 have hle := lmF_le (l := allP p) (0, 0) (Int.le_refl _)
 have HNE := Lib.hid (fun (k : Nat) => lmF_near (l := (allP p).take k) (fun x hx => hal x (List.mem_of_mem_take hx)) (0, 0) (by simp))
 obtain ⟨F, hF⟩ : ∃ F, frmA p = F := ⟨_, rfl⟩
 rw [hF] at HF ⊢
 obtain ⟨FX, hFX⟩ : ∃ F, frmX p = F := ⟨_, rfl⟩
 rw [hFX] at HX HF HC
 obtain ⟨FC, hFC⟩ : ∃ F, frmC p = F := ⟨_, rfl⟩
 rw [hFC] at HC HF
 obtain ⟨LM, hLM⟩ : ∃ F, lmP p = F := ⟨_, rfl⟩
 rw [hLM] at HX HC HLM
 obtain ⟨T, hT⟩ : ∃ F, allP p = F := ⟨_, rfl⟩
 rw [hT] at hal HLM HALL hne hle HNE
 rw [← HLM.out] at hne hle
 rw [hH] at hh
 obtain ⟨O1, hO1⟩ : ∃ O, outP p false = O := ⟨_, rfl⟩
 obtain ⟨O2, hO2⟩ : ∃ O, outP p true = O := ⟨_, rfl⟩
 rw [hO1] at o1 l1 p1 h1 HALL
 rw [hO2] at o2 l2 HALL
 have HN := Lib.hid hal
 have H1 : Hid (O1[0]? = some (0, 0)) := h1
 clear hF hFX hFC hLM hT hO1 hO2 hH hal h1 hx0
 obtain ⟨AL, cL, rfl, _, _, _⟩ := hL
 obtain ⟨AR, cR, rfl, _, _, _⟩ := hR
 unfold sV at o1 o2 hh ⊢
 have hP := (Blk.new w 30 #[.string ⟨p.1.toArray⟩, .int .i64 p.2.1, .slice AL p.2.2.1.length cL, .slice AR p.2.2.2.length cR]).alloc (.cells #[.int .i64 0, .int .i64 0, .int .i64 0, .int .i64 0] 98)
 have hZ := Blk.new1 w (.cells #[.string ⟨p.1.toArray⟩, .int .i64 p.2.1, .slice AL p.2.2.1.length cL, .slice AR p.2.2.2.length cR] 30) 98 #[.int .i64 0, .int .i64 0, .int .i64 0, .int .i64 0]
 go_enter Tryz.func110, Tryz.ntmps110
 go_upto_region 1 with fail
 obtain ⟨w1, hw1⟩ : ∃ X, (w.alloc (.cells #[.string ⟨p.1.toArray⟩, .int .i64 p.2.1, .slice AL p.2.2.1.length cL, .slice AR p.2.2.2.length cR] 30)).alloc (.cells #[.int .i64 0, .int .i64 0, .int .i64 0, .int .i64 0] 98) = X := ⟨_, rfl⟩
 have hb1 : Below w.heap.size w w1 := by rw [← hw1]; exact bl_alloc (bl_alloc bl_refl _) _
 rw [hw1] at hP hZ ⊢
 clear hw1
 have fhP := hP.facts
 refine wp_region_ords [0, 2] [(1, false)] [3, 4, 5, 6] (by kernel_rfl) (by kernel_rfl) (fun d _ _ _ _ h => by cases d <;> exact h) ?_
 simp only [List.map_cons, List.map_nil, List.getD_cons_zero, List.getD_cons_succ]
 repeat (go_big_quiet_step (fail))
 refine wpQuiet_nil ?_
 refine wpMid_run rfl (fun K hK => ?_)
 go_simp
 refine (o1 _ (by (repeat first|exact J0|assumption|(apply J1;assumption)|apply J2|apply J3|apply J4))).mono ?_
 rintro e w8 ⟨v8, rfl, hO8, hb8⟩
 refine hK _ _ (by (repeat first|exact J0|assumption|(apply J1;assumption)|apply J2|apply J3|apply J4)) ?_
 clear hK K
 have hP_w8 := hP.below (show Below _ _ w8 by (repeat first|exact J0|assumption|(apply J1;assumption)|apply J2|apply J3|apply J4))
 have fhP_w8 := hP_w8.facts
 obtain ⟨A8, c8, rfl⟩ := hO8.shape
 refine wpMid_nil ?_
 go_wp2_with (go_at_call 64; refine (o2 _ (by (repeat first|exact J0|assumption|(apply J1;assumption)|apply J2|apply J3|apply J4))).mono ?_; rintro e w9 ⟨v9, rfl, hO9, hb9⟩; obtain ⟨A9, c9, rfl⟩ := hO9.shape)
 have hb19 : Below w1.heap.size w1 w9 := by (repeat first|exact J0|assumption|(apply J1;assumption)|apply J2|apply J3|apply J4)
 have hP9 := hP.below hb19
 have hZ9 := hZ.below hb19
 have hS8 := ((hO8.rd kc_len).below (show Below w8.heap.size w8 w9 by (repeat first|exact J0|assumption|(apply J1;assumption)|apply J2|apply J3|apply J4))).alloc (.cells #[.slice A8 O1.length c8, .slice A9 O2.length c9] 93)
 have hS9 := (hO9.rd kc_len).alloc (.cells #[.slice A8 O1.length c8, .slice A9 O2.length c9] 93)
 have hK9 := Blk.new w9 93 #[.slice A8 O1.length c8, .slice A9 O2.length c9]
 have hbw9 : Below w.heap.size w w9 := bl_then hb19 hb1
 clear o1 o2 hP hZ fhP hb8 hb9 hP_w8 fhP_w8 hb1
 refine (concat2_any O1 O2 A8 A9 c8 c9 w9.heap.size 2 _ hK9.lt (by rw [hK9.cell]; rfl) (by rw [hK9.cell]; rfl) hS8 hS9 p1 (by omega) (by omega)).mono ?_
 rintro e w10 ⟨v10, rfl, hO10, hb10⟩
 rw [← HALL.out] at hO10
 have hb910 : Below w9.heap.size w9 w10 := by (repeat first|exact J0|assumption|(apply J1;assumption)|apply J2|apply J3|apply J4)
 have hP10 := hP9.below hb910
 have hZ10 := hZ9.below hb910
 have hbw10 : Below w.heap.size w w10 := bl_then hb910 hbw9
 have hTl : T.length ≤ 1026 := by rw [HALL.out, List.length_append]; omega
 have hT0 : T[0]? = some (0, 0) := by rw [HALL.out, List.getElem?_append_left p1]; exact H1.out
 obtain ⟨hTn, hTe⟩ := List.getElem?_eq_some_iff.1 hT0
 obtain ⟨A10, c10, rfl⟩ := hO10.shape
 obtain ⟨_, _, he10, hlc10, hcm10, hr10⟩ := hO10.rd kc_len
 obtain ⟨rfl, rfl⟩ : A10 = _ ∧ c10 = _ := by simpa using he10
 obtain ⟨s10, q10, rfl, hl10, k0, k1⟩ := hr10.knot (k := 0) hTn
 rw [hTe] at k0 k1
 simp only [Nat.zero_mul, Nat.add_zero] at k0 k1
 clear hP9 hZ9 hS8 hS9 hK9 hbw9 hO8 hO9 hO10 hb10 hb910 he10 hb19 hTe hT0
 go_upto_region 2 with fail
 refine wp_region_ords [0, 1, 2, 3, 4, 5, 6, 7, 8, 9] [] [] (by kernel_rfl) (by kernel_rfl) (fun d _ _ _ _ h => by cases d <;> exact h) ?_
 simp only [List.map_cons, List.map_nil, List.getD_cons_zero, List.getD_cons_succ]
 repeat (go_big_quiet_step (fail))
 refine wpQuiet_nil ?_
 refine wpMid_nil ?_
 go_wp2
 obtain ⟨w11, hw11⟩ : ∃ X, w10.drew = X := ⟨_, rfl⟩
 have hb11 : Below w10.heap.size w10 w11 := by rw [← hw11]; exact bl_drew bl_refl
 rw [hw11]
 replace hr10 := hr10.below hb11
 have hP11 := hP10.below hb11
 have hZ11 := hZ10.below hb11
 have hbw11 := bl_then hb11 hbw10
 clear hw11 hP10 hZ10 hb11 hbw10 k0 k1
 go_loopw [4, 5, 24] (fun s4 s5 s24 wr => ∃ k : Nat, k ≤ T.length ∧ s24 = .int .i64 k ∧ s4 = .int .i64 (lmF (T.take k) (0, 0)).1 ∧ s5 = .int .i64 (lmF (T.take k) (0, 0)).2 ∧ Below w11.heap.size w11 wr) (fun _ _ i _ => T.length - (intOf i).toNat)
 case atStart => exact ⟨0, Nat.zero_le _, rfl, rfl, rfl, bl_refl⟩
 case round =>
  obtain ⟨k, hk, rfl, rfl, rfl, hbk⟩ := hrel
  have hnk := HNE.out k
  by_cases hlt : k < T.length
  ·obtain ⟨_, _, hEk, hlk, e0, e1⟩ := (hr10.below hbk).knot hlt
   obtain ⟨rfl, rfl⟩ : s10 = _ ∧ q10 = _ := by simpa using hEk
   have HS := Lib.hid (lmF_snoc hlt (0, 0))
   have hxn := HN.out _ (List.getElem_mem hlt)
   obtain ⟨⟨x, y⟩, hx⟩ : ∃ z, T[k] = z := ⟨_, rfl⟩
   rw [hx] at e0 e1 HS hxn
   simp only at e0 e1 hxn
   obtain ⟨⟨m1, m2⟩, hm⟩ : ∃ z, lmF (T.take k) (0, 0) = z := ⟨_, rfl⟩
   rw [hm] at HS hnk
   rw [hm]
   simp only at hnk
   have HS1 : Hid ((lmF (T.take (k + 1)) (0, 0)).1 = min m1 x) := by unfold Hid; rw [HS.out]; rfl
   have HS2 : Hid ((lmF (T.take (k + 1)) (0, 0)).2 = max m2 x) := by unfold Hid; rw [HS.out]; rfl
   have hX := Blk.new wr 40 #[.int .i64 x, .int .i64 y]
   have fX := hX.facts
   clear hx hm hEk
   go_upto_region 6 with fail
   refine wp_region_ords [0, 1, 2, 3, 4, 5, 6, 7, 8, 9] [] [] (by kernel_rfl) (by kernel_rfl) (fun d _ _ _ _ h => by cases d <;> exact h) ?_
   simp only [List.map_cons, List.map_nil, List.getD_cons_zero, List.getD_cons_succ]
   repeat (go_big_quiet_step (fail))
   refine wpQuiet_nil ?_
   refine wpMid_nil ?_
   go_wp2
   go_roundw
   case rel => exact ⟨k + 1, by omega, by go_num, by rw [HS1.out], by rw [HS2.out], bl_drew (bl_alloc hbk _)⟩
   case measure => simp [intOf]; omega
  ·obtain rfl : k = T.length := by omega
   rw [List.take_length, ← HLM.out]
   obtain ⟨m1, m2⟩ := LM
   simp only at HX HC hne hle
   have hPk := hP11.below hbk
   have hZk := hZ11.below hbk
   have hbw : Below w.heap.size w wr := bl_then hbk hbw11
   have fPk := hPk.facts
   clear hnk HNE hP11 hZ11
   simp only
   by_cases he : m1 % 2 = 0
   ·have t1 : (m1.tmod 2 != 0) = false := by rw [bne_eq_false_iff_eq]; exact tmod2.2 he
    have HXX : Hid (FX = m1) := by unfold Hid; rw [HX.out, if_pos he]
    have HCC : Hid (FC = (m2 - m1 + 1) / 2) := by unfold Hid; rw [HC.out, HXX.out]
    clear he
    go_wp2_with (first | (go_at_call 63; refine (hh _ (by (repeat first|exact J0|assumption|(apply J1;assumption)|apply J2|apply J3|apply J4))).mono ?_; rintro e w12 ⟨rfl, hb12⟩; have hZ12 := hZk.below hb12) | (refine wpList_store_blk hZ12 rfl _ _ _ rfl rfl rfl (by rfl) (by kernel_rfl) (by kernel_rfl) ?_; intro w13 hZ13 hc13; have f13 := hZ13.facts))
    refine bodyPost_ret (v := .agg #[.int .i64 m1, .int .i64 0, .int .i64 ((m2 - m1 + 1) / 2), .int .i64 H]) (by simp [results, Tryz.results110, go_sem, f13]) rfl ?_
    exact ⟨by rw [HF.out, HXX.out, HCC.out], chg_bl (bl_then hb12 hbw) hc13 (by omega)⟩
   ·have t1 : (m1.tmod 2 != 0) = true := by rw [bne_iff_ne]; exact fun h => he (tmod2.1 h)
    have HXX : Hid (FX = m1 - 1) := by unfold Hid; rw [HX.out, if_neg he]
    have HCC : Hid (FC = (m2 - (m1 - 1) + 1) / 2) := by unfold Hid; rw [HC.out, HXX.out]
    clear he
    go_wp2_with (first | (go_at_call 63; refine (hh _ (by (repeat first|exact J0|assumption|(apply J1;assumption)|apply J2|apply J3|apply J4))).mono ?_; rintro e w12 ⟨rfl, hb12⟩; have hZ12 := hZk.below hb12) | (refine wpList_store_blk hZ12 rfl _ _ _ rfl rfl rfl (by rfl) (by kernel_rfl) (by kernel_rfl) ?_; intro w13 hZ13 hc13; have f13 := hZ13.facts))
    refine bodyPost_ret (v := .agg #[.int .i64 (m1 - 1), .int .i64 0, .int .i64 ((m2 - (m1 - 1) + 1) / 2), .int .i64 H]) (by simp [results, Tryz.results110, go_sem, f13]) rfl ?_
    exact ⟨by rw [HF.out, HXX.out, HCC.out], chg_bl (bl_then hb12 hbw) hc13 (by omega)⟩
end Go.Proofs.YtkkefahobjlagaaGreatDoor

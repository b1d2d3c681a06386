/- Parse of panels, walked. Conditions: the variables are laid. -/
import Derived.Test.YtkkefahobjlagaaGreatDoorQ33
import Derived.Test.YtkkefahobjlagaaGreatDoorQ15
import Derived.Test.YtkkefahobjlagaaGreatDoorQ30
import Derived.ChangeKeysEq
namespace Go.Proofs.YtkkefahobjlagaaGreatDoor
open Go.RowKit Go.ChangeMaps
set_option maxHeartbeats 4000000
set_option maxRecDepth 100000
attribute [local go_sem] Oper.semAt_some
theorem lines_few : ∀ s : Str, (linesL s).length ≤ s.length
 | [] => Nat.le_refl _
 | c :: r => by
  have := lines_few r
  rw [linesL]
  split
  ·simp; omega
  ·split
   ·simp
   ·rename_i l ls hl
    rw [hl] at this
    simp at this ⊢
    omega
structure PrsAt (w : World) (D n0 k : Nat) (W : World) (l : List Pan) (o : Option Pan) (st : Str) : Prop where
 r : RdrAt D n0 k W l o st
 b1 : Blk W (n0 + 1) 173 #[.func (.func 102) #[.pointer (some ⟨n0, 0, none⟩)] #[]]
 b2 : Blk W (n0 + 1 + 1) 3 #[.int .i64 k]
 b3 : Blk W (n0 + 1 + 1 + 1) 32 #[.int .i64 0]
 hb : Below n0 w W
 sz : D ≤ W.heap.size
 con : st = wPan ∨ st = wLeft ∨ st = wRight → o ≠ none
theorem PrsAt.from {w W W' : World} {D n0 k : Nat} {l : List Pan} {o : Option Pan} {st : Str} {row : Option Nat} (h : PrsAt w D n0 k W l o st) (hD : n0 + 5 = D) (hg : W.grownBy W' row) (hr : ∀ r, row = some r → D ≤ r ∧ ∃ o : Obj, W.heap[r]? = some o ∧ o.isCells = false) : PrsAt w D n0 k W' l o st :=
 ⟨h.r.from hg hr, h.b1.grown hg (nc_blk h.b1 hr), h.b2.grown hg (nc_blk h.b2 hr), h.b3.grown hg (nc_blk h.b3 hr), h.hb.grown hg (by have := h.sz; omega) (fun k e => by have := (hr k e).1; omega), Nat.le_trans h.sz hg.size, h.con⟩
theorem PrsAt.chg {w W W' : World} {D n0 k B : Nat} {l : List Pan} {o : Option Pan} {st : Str} (h : PrsAt w D n0 k W l o st) (hD : n0 + 5 = D) (hB : B = n0 + 1 + 1 + 1 + 1) (hc : Chg [B] W W') : PrsAt w D n0 k W' l o st :=
 ⟨h.r.chgB (by omega) (by omega) hc, h.b1.chg hc (by simp; omega), h.b2.chg hc (by simp; omega), h.b3.chg hc (by simp; omega),
  h.hb.trans ⟨hc.os, hc.tape, hc.output, hc.size, fun k hk => hc.block k (by have := h.sz; omega) (by simp; omega)⟩, Nat.le_trans h.sz hc.size, h.con⟩
theorem Blk.setA {W : World} {g g' i : Nat} {t : TypeId} {cs : Array Value} {u : Value} (h : Blk W g t cs) (hne : g ≠ g') : Blk (W.setCell ⟨g', i, none⟩ u) g t cs := (Below.heap_setCell W ⟨g', i, none⟩ u g hne).trans h
theorem below_setA {w W : World} {n0 g i : Nat} {u : Value} (hb : Below n0 w W) (h : n0 ≤ g) : Below n0 w (W.setCell ⟨g, i, none⟩ u) :=
 hb.trans ⟨rfl, rfl, rfl, by simp [World.setCell], fun k hk => Below.heap_setCell W ⟨g, i, none⟩ u k (show k ≠ g by omega)⟩
theorem below_putA {w W : World} {n0 D : Nat} (hb : Below n0 w W) (hD : n0 ≤ D) (o : Obj) : Below n0 w (W.putObj D o) :=
 hb.trans ⟨rfl, rfl, rfl, by simp [World.putObj], fun k hk => World.putObj_heap_other (by omega)⟩
theorem apiParse_any (s : Str) (w : World) (hL : Lay w) : Calls Tryz.prog 37 #[sV s] w (RPP w (parR s)) := by
 by_cases hl : 16384 < s.length
 ·exact parse_long s w hl
 ·have hl' : (16384 < (s.length : Int)) = False := eq_false (by omega)
  have HP : Hid (parR s = parP (linesL s) [] none [] 0) := by unfold Hid parR; rw [if_neg hl]
  refine (callsIn_wide (n := 6)).1 ?_
  refine callsIn_of_wp_marks Tryz.func37 rfl trivial ?_ rfl
  simp only [Tryz.ntmps37, List.size_toArray, List.length_cons, List.length_nil, Nat.reduceAdd, Nat.reduceSub, Array.replicate_succ, Array.replicate_zero, List.push_toArray, List.append_toArray, List.nil_append, List.cons_append]
  simp only [show sV s = Value.string { data := s.toArray } from rfl]
  gi_wp2
  apply wpIn_scope_straight
  gi_wp2
  apply wpIn_label
  gi_wp2_with (refine ⟨trivial, ?_⟩; gi_at_call 103; refine (callsIn_wide.2 (lines_any s _)).mono ?_; rintro e w2 ⟨rfl, hw2⟩)
  obtain ⟨n0, hn0⟩ : ∃ n0, w.heap.size = n0 := ⟨_, rfl⟩
  obtain ⟨D, hD⟩ : ∃ D, n0 + 5 = D := ⟨_, rfl⟩
  obtain ⟨B, hB⟩ : ∃ B, n0 + 1 + 1 + 1 + 1 = B := ⟨_, rfl⟩
  have hP : Blk w2 B 9 #[sV s] ∧ PrsAt w D n0 0 w2 [] none [] ∧ w2.heap.size = D := by
   have al : ∀ {W : World} {o : Obj}, Below W.heap.size W (W.alloc o) := bl_alloc bl_refl _
   rw [hw2]
   have nw : ∀ {W : World} {g : Nat} {t : TypeId} {cs : Array Value}, W.heap.size = g → Blk (W.alloc (.cells cs t)) g t cs := fun h => h ▸ Blk.new _ _ _
   refine ⟨nw (by simp; omega), ⟨RdrAt.start ?_ (by simp; omega), ?_, ?_, ?_, ?_, by simp; omega, fun h => absurd h (by decide)⟩, by simp; omega⟩
   ·exact ((((nw hn0).below al).below al).below al).below al
   ·rw [hn0]; exact (((nw (by simp; omega)).below al).below al).below al
   ·exact ((nw (by simp; omega)).below al).below al
   ·exact (nw (by simp; omega)).below al
   ·rw [← hn0]; exact bl_alloc (bl_alloc (bl_alloc (bl_alloc (bl_alloc bl_refl _) _) _) _) _
  obtain ⟨hBs, hP, hsz⟩ := hP
  rw [← hw2, hn0, hB]
  clear hw2
  have HL := Lib.hid hL
  clear hL
  refine wpIn_range_lines (s := s) (B := B) (p := 19) (d := 9) (by omega) hsz (by omega) rfl hBs
   (I := fun pre W => ∃ l o st rest, linesL s = pre ++ rest ∧ parP (linesL s) [] none [] 0 = parP rest l o st pre.length ∧ PrsAt w D n0 pre.length W l o st)
   (Ix := fun c _ W => c = .exit 0 ∧ ∃ (k : Nat) (e : Int), e ≠ 0 ∧ parP (linesL s) [] none [] 0 = ([], (k : Int), e) ∧ Blk W (n0 + 1 + 1) 3 #[.int .i64 k] ∧ Blk W (n0 + 1 + 1 + 1) 32 #[.int .i64 e] ∧ Below n0 w W ∧ D ≤ W.heap.size)
   ?hI ?hIx ?hIB ?h0 ?hassign ?hbody ?hdone ?hstop
  case hI =>
   rintro pre W W' row ⟨l, o, st, rest, h1, h2, h3⟩ hg hr
   exact ⟨l, o, st, rest, h1, h2, h3.from hD hg hr⟩
  case hIx =>
   rintro c pre W W' row ⟨h1, k, e, h0, h2, h3, h4, h6, h7⟩ hg hr
   exact ⟨h1, k, e, h0, h2, h3.grown hg (nc_blk h3 hr), h4.grown hg (nc_blk h4 hr), h6.grown hg (by omega) (fun k e => by have := (hr k e).1; omega), Nat.le_trans h7 hg.size⟩
  case hIB =>
   rintro pre W W' ⟨l, o, st, rest, h1, h2, h3⟩ hc
   exact ⟨l, o, st, rest, h1, h2, h3.chg hD hB.symm hc⟩
  case h0 => exact ⟨[], none, [], linesL s, rfl, rfl, hP⟩
  case hassign =>
   intro x W K hK
   gi_wp2
   exact hK
  case hdone =>
   rintro W ⟨l, o, st, rest, h1, h2, h3⟩ hD'
   obtain rfl : rest = [] := by simpa using h1
   have HQ : Hid (parR s = if st ≠ [] ∧ st ≠ wEnd then ([], ((linesL s).length : Int), 28) else (l, 0, 0)) := by unfold Hid; rw [HP.out, h2]; rfl
   obtain ⟨K, hK⟩ : ∃ K, (linesL s).length = K := ⟨_, rfl⟩
   rw [hK] at HQ h3
   have f2 := h3.b2.facts
   have f3 := h3.b3.facts
   obtain ⟨xs, vP, ⟨nm, wd, ⟨La, Ln, Lc⟩, ⟨Ra, Rn, Rc⟩⟩, wb, hBr, hPO, hxs, hC, hbz, hrest⟩ := h3.r
   obtain ⟨PA, Pc, rfl⟩ := hPO.shape
   simp only [slV] at hBr
   have hbb := h3.hb
   have hzz := h3.sz
   clear h1 h2 h3 hrest hK
   by_cases q1 : st = []
   ·subst q1
    have HQ2 : Hid (parR s = (l, 0, 0)) := by unfold Hid; rw [HQ.out, if_neg (by simp)]
    unfold sV at hBr
    have fB := hBr.facts
    gi_wp2
    rw [Exit.noGoto_ret]
    refine ⟨by simp, .inl ⟨_, _, rfl, run_takeDeferred (show W.heap[D]? = some (.deferred (some [])) from hD'), ?_⟩⟩
    refine ⟨.tuple #[.slice PA xs.length Pc, .int .i64 0, .int .i64 0], by simp [results, Tryz.results37, go_sem], ?_⟩
    exact ⟨_, by rw [HQ2.out], by rw [HQ2.out]; exact ⟨xs, Own.rd pnc_len (ownsRow_putObj hPO _ hD' rfl), (PnsOwn.to (fun v l ho => ownsRow_putObj ho _ hD' rfl) (hxs.to hC.own)).at_⟩, by rw [hn0]; exact below_putA hbb (by omega) _⟩
   ·by_cases q2 : st = wEnd
    ·have HQ2 : Hid (parR s = (l, 0, 0)) := by unfold Hid; rw [HQ.out, if_neg (by simp [q2])]
     subst q2
     unfold sV wEnd at hBr
     have fB := hBr.facts
     gi_wp2
     rw [Exit.noGoto_ret]
     refine ⟨by simp, .inl ⟨_, _, rfl, run_takeDeferred (show W.heap[D]? = some (.deferred (some [])) from hD'), ?_⟩⟩
     refine ⟨.tuple #[.slice PA xs.length Pc, .int .i64 0, .int .i64 0], by simp [results, Tryz.results37, go_sem], ?_⟩
     exact ⟨_, by rw [HQ2.out], by rw [HQ2.out]; exact ⟨xs, Own.rd pnc_len (ownsRow_putObj hPO _ hD' rfl), (PnsOwn.to (fun v l ho => ownsRow_putObj ho _ hD' rfl) (hxs.to hC.own)).at_⟩, by rw [hn0]; exact below_putA hbb (by omega) _⟩
    ·have HQ2 : Hid (parR s = ([], (K : Int), 28)) := by unfold Hid; rw [HQ.out, if_pos ⟨q1, q2⟩]
     obtain ⟨B0, hB0⟩ : ∃ B : ByteArray, ({ data := st.toArray } : ByteArray) = B := ⟨_, rfl⟩
     have hBl0 : B0.toList = st := by rw [← hB0]; simp [ByteArray.toList_eq]
     have g1 : (B0.toList == []) = false := by rw [hBl0]; cases st <;> simp_all
     have g2 : B0.toList.isEmpty = false := by rw [hBl0]; cases st <;> simp_all
     have g3 : (B0.toList = []) = False := by rw [hBl0]; simpa using q1
     have g4 : (B0.toList == [101, 110, 100]) = false := by rw [hBl0]; simpa [wEnd] using q2
     have g5 : (B0.toList = [101, 110, 100]) = False := by rw [hBl0]; simpa [wEnd] using q2
     unfold sV at hBr
     rw [hB0] at hBr
     have fB := hBr.facts
     clear hB0 hBl0 q1 q2
     gi_upto_region 14 with fail
     refine wpIn_noPanic ?_
     refine wpIn_region_ords [0, 1, 2, 3] [] [] (fun _ => trivial) (by kernel_rfl) (by kernel_rfl) (by kernel_rfl) (fun _ _ _ _ _ h => h) ?_
     simp only [List.map_cons, List.map_nil, List.getD_cons_zero, List.getD_cons_succ]
     repeat (go_big_quiet_step (fail))
     refine wpQuiet_nil ?_
     refine wpMidI_nil ?_
     gi_wp2_with fail
     simp only [noPanic]
     gi_wp2
     rw [Exit.noGoto_ret]
     refine ⟨by simp, .inl ⟨_, _, rfl, run_takeDeferred (show W.drew.heap[D]? = some (.deferred (some [])) from hD'), ?_⟩⟩
     refine ⟨.tuple #[.slice none 0 0, .int .i64 (K : Int), .int .i64 28], by simp [results, Tryz.results37, go_sem], ?_⟩
     exact ⟨_, by rw [HQ2.out], by rw [HQ2.out]; exact ⟨[], ⟨none, 0, rfl, by simp, by simp [maxLen], fun i x hx => by simp at hx⟩, trivial⟩, by rw [hn0]; exact below_putA hbb.drew (by omega) _⟩
  case hstop =>
   rintro c pre W ⟨rfl, k, e, h0, h2, h3, h4, h6, h7⟩ hD'
   have HQ : Hid (parR s = ([], (k : Int), e)) := by unfold Hid; rw [HP.out, h2]
   have t0 : (e != 0) = true := by simpa using h0
   have f3 := h3.facts
   have f4 := h4.facts
   clear h2 h0
   gi_upto_region 12 with fail
   refine wpIn_noPanic ?_
   refine wpIn_region_ords [0, 1, 2, 3, 4] [] [] (fun _ => trivial) (by kernel_rfl) (by kernel_rfl) (by kernel_rfl) (fun _ _ _ _ _ h => h) ?_
   simp only [List.map_cons, List.map_nil, List.getD_cons_zero, List.getD_cons_succ]
   repeat (go_big_quiet_step (fail))
   refine wpQuiet_nil ?_
   refine wpMidI_nil ?_
   gi_wp2_with fail
   simp only [noPanic]
   gi_wp2
   rw [Exit.noGoto_ret]
   refine ⟨by simp, .inl ⟨_, _, rfl, run_takeDeferred (show W.drew.heap[D]? = some (.deferred (some [])) from hD'), ?_⟩⟩
   refine ⟨.tuple #[.slice none 0 0, .int .i64 (k : Int), .int .i64 e], by simp [results, Tryz.results37, go_sem], ?_⟩
   exact ⟨_, by rw [HQ.out], by rw [HQ.out]; exact ⟨[], ⟨none, 0, rfl, by simp, by simp [maxLen], fun i x hx => by simp at hx⟩, trivial⟩, by rw [hn0]; exact below_putA h6.drew (by omega) _⟩
  case hbody =>
   rintro pre x r W hx ⟨l, o, st, rest, h1, h2, h3⟩
   obtain rfl : rest = x :: r := by rw [hx] at h1; exact (List.append_cancel_left h1).symm
   have hxl : x.length ≤ 50000 := by have := lines_size (s := s) (x := x) (by rw [hx]; simp); omega
   have hpl : pre.length + 1 ≤ 20000 := by have := lines_few s; rw [hx] at this; simp at this; omega
   have hLW : ∀ W', Wrt D n0 W W' → Lay W' := fun W' h => HL.out.below (by rw [hn0]; exact h3.hb.trans (h.below (by omega) (Nat.le_refl _)))
   have c1 := read_any D n0 pre.length x l o st W hLW h3.r hxl hpl h3.con
   have HC := Lib.hid (fun h => read_con (x := x) (l := l) h3.con h)
   have HS := Lib.hid h2
   have HX := Lib.hid hx
   have HR : Hid (parP (x :: r) l o st pre.length = if readE x l o st = 0 then parP r (readN x l o).1 (readN x l o).2 ((readW x).getD 0 []) (pre.length + 1) else ([], (pre.length : Int), readE x l o st)) := rfl
   obtain ⟨E, hE⟩ : ∃ E, readE x l o st = E := ⟨_, rfl⟩
   rw [hE] at c1 HC HR
   have f1 := h3.b1.facts
   have hsz3 := h3.sz
   have hB3 := h3.b3
   have hB2 := h3.b2
   have hbb := h3.hb
   clear h1 h2 hx hE hLW hP hxl
   have hkeep : ∀ w4, Wrt D n0 W w4 → Blk w4 (n0 + 1 + 1) 3 #[.int .i64 (pre.length : Int)] ∧ Blk w4 (n0 + 1 + 1 + 1) 32 #[.int .i64 0] ∧ Blk w4 (n0 + 1) 173 #[.func (.func 102) #[.pointer (some ⟨n0, 0, none⟩)] #[]] := fun w4 h => ⟨h.blk h3.b2 (by omega) (by omega), h.blk h3.b3 (by omega) (by omega), h.blk h3.b1 (by omega) (by omega)⟩
   by_cases hE0 : E = 0
   ·subst hE0
    gi_wp2_with (refine ⟨trivial, ?_⟩; gi_at_call 102; refine (CallsIn.inRound _ (callsIn_wide.2 c1)).mono ?_; rintro e w4 ⟨rfl, hw4, hR4⟩; obtain ⟨g2, g3, g1⟩ := hkeep _ hw4; have k2 := g2.facts; have k3 := g3.facts)
    have hRd := ((hR4 (by trivial)).chgB (B := n0 + 1 + 1 + 1) (by omega) (by omega) (Chg.refl.setIn (p := ⟨n0 + 1 + 1 + 1, 0, none⟩) (by simp) (.int .i64 0))).chgB (B := n0 + 1 + 1) (by omega) (by omega) (Chg.refl.setIn (p := ⟨n0 + 1 + 1, 0, none⟩) (by simp) (.int .i64 ((pre.length : Int) + 1)))
    have q2 := (g2.setA (g' := n0 + 1 + 1 + 1) (i := 0) (u := .int .i64 0) (by omega)).set_ 0 (.int .i64 ((pre.length : Int) + 1))
    have q3 := (g3.set_ 0 (.int .i64 0)).setA (g' := n0 + 1 + 1) (i := 0) (u := .int .i64 ((pre.length : Int) + 1)) (by omega)
    have q1 := (g1.setA (g' := n0 + 1 + 1 + 1) (i := 0) (u := .int .i64 0) (by omega)).setA (g' := n0 + 1 + 1) (i := 0) (u := .int .i64 ((pre.length : Int) + 1)) (by omega)
    have hk4 : KeepsFrom D W w4 := ⟨hw4.size, fun k o _ => hw4.same.same k o (Nat.zero_le _)⟩
    have hsz4 := hw4.size
    refine ⟨hk4.trans ((keeps_set g3 0 _).trans (keeps_set (g2.setA (g' := n0 + 1 + 1 + 1) (i := 0) (u := .int .i64 0) (by omega)) 0 _)), fun v hv => ((hw4.blk hv (by omega) (by omega)).setA (by omega)).setA (by omega), (readN x l o).1, (readN x l o).2, (readW x).getD 0 [], r, by rw [HX.out]; simp, ?_, ⟨?_, q1, ?_, q3, ?_, ?_, HC.out (by trivial)⟩⟩
    ·rw [HS.out, HR.out]; simp
    ·simpa using hRd
    ·simpa using q2
    ·exact below_setA (below_setA (hbb.trans (hw4.below (by omega) (Nat.le_refl _))) (by omega)) (by omega)
    ·simp [World.setCell]; omega
   ·have tE : (E != 0) = true := by simpa using hE0
    gi_wp2_with (refine ⟨trivial, ?_⟩; gi_at_call 102; refine (CallsIn.inRound _ (callsIn_wide.2 c1)).mono ?_; rintro e w4 ⟨rfl, hw4, hR4⟩; obtain ⟨g2, g3, g1⟩ := hkeep _ hw4; have k2 := g2.facts; have k3 := g3.facts)
    have hk4 : KeepsFrom D W w4 := ⟨hw4.size, fun k o _ => hw4.same.same k o (Nat.zero_le _)⟩
    have hsz4 := hw4.size
    refine ⟨hk4.trans (keeps_set g3 0 _), rfl, pre.length, E, hE0, ?_, g2.setA (by omega), g3.set_ 0 _, ?_, ?_⟩
    ·rw [HS.out, HR.out, if_neg hE0]
    ·exact below_setA (hbb.trans (hw4.below (by omega) (Nat.le_refl _))) (by omega)
    ·simp [World.setCell]; omega
theorem redges_any (l : List Edg) (A : Option Addr) (c : Nat) (w : World) (h : Rd ec 3 w A l) (hl : l.length ≤ 100000) : Calls Tryz.prog 114 #[.slice A l.length c] w (RG ec 3 132 w l) := by
 go_enter Tryz.func114, Tryz.ntmps114
 go_wp2
 go_loopw [3, 7] (fun o i wr => ∃ k : Nat, k ≤ l.length ∧ i = .int .i64 k ∧ Own ec 3 w.heap.size 132 wr o (l.take k) ∧ Below w.heap.size w wr) (fun _ i _ => l.length - (intOf i).toNat)
 case atStart => exact ⟨0, Nat.zero_le _, rfl, Own.nil_, bl_refl⟩
 case round =>
  obtain ⟨k, hk, rfl, hO, hbw⟩ := hrel
  obtain ⟨wo, rfl⟩ : ∃ x, x = wr := ⟨_, rfl⟩
  by_cases hlt : k < l.length
  ·obtain ⟨b, off, rfl, hb, e0, e1, e2⟩ := (h.below hbw).edge hlt
   have HT := Lib.hid (List.take_succ_eq_append_getElem hlt)
   obtain ⟨⟨s, t, o⟩, hx⟩ : ∃ z, l[k] = z := ⟨_, rfl⟩
   rw [hx] at e0 e1 e2 HT
   simp only at e0 e1 e2
   obtain ⟨T, hT⟩ : ∃ T, l.take k = T := ⟨_, rfl⟩
   have hTl : T.length ≤ 100000 := by rw [← hT, List.length_take]; omega
   rw [hT] at hO HT
   clear hx hT
   obtain ⟨Ao, co, rfl⟩ := hO.shape
   have hal : Below wo.heap.size wo (wo.alloc (.cells #[.string ⟨s.toArray⟩, .int .i64 t, .bool o] 132)) := bl_alloc bl_refl _
   have hu : Sl ec 3 (wo.alloc (.cells #[.string ⟨s.toArray⟩, .int .i64 t, .bool o] 132)) (.slice (some ⟨wo.heap.size, 0, none⟩) 1 1) [(s, t, o)] := Sl.oneG wo _ (s, t, o) _ rfl
   go_wp2_with (at_builtin; refine wpList_app rfl redge_elem ec_len ec_one _ _ rfl w.heap.size _ _ _ [(s, t, o)] rfl rfl (hO.alloc _) hu (by simp [maxLen]; omega) (by simp; omega) (Nat.le_trans hbw.size hal.size) ?_; intro v3 w3 hu3 hgr3)
   have hb3 : Below w.heap.size w w3 := bl_tgrown (bl_then hal hbw) hgr3 (Nat.le_trans hbw.size hal.size) (fun j e => (hO.lt j e).1)
   go_wp2
   go_roundw
   case rel => exact ⟨k + 1, by omega, by go_num, by rw [HT.out]; exact hu3, hb3⟩
   case measure => simp [intOf]; omega
  ·have hkl : k = l.length := by omega
   have HT := Lib.hid (show l.take k = l by rw [hkl, List.take_length])
   go_wp2
   go_ret
   exact ⟨_, rfl, by rw [HT.out] at hO; exact hO, hbw⟩
def ROW (w : World) (p : Pan) (e : Ending) (w' : World) : Prop :=
 ∃ uL uR, e = .returned (.agg #[sV p.1, .int .i64 p.2.1, uL, uR]) ∧ Own ec 3 w.heap.size 132 w' uL p.2.2.1 ∧ Own ec 3 w.heap.size 132 w' uR p.2.2.2 ∧ Below w.heap.size w w'
theorem rown_any {vL vR : Value} (p : Pan) (w : World) (hL : SlE w vL p.2.2.1) (hR : SlE w vR p.2.2.2) (hl : p.2.2.1.length ≤ 100000) (hr : p.2.2.2.length ≤ 100000) :
  Calls Tryz.prog 50 #[.agg #[sV p.1, .int .i64 p.2.1, vL, vR]] w (ROW w p) := by
 obtain ⟨AL, cL, rfl, _, _, rL⟩ := hL
 obtain ⟨AR, cR, rfl, _, _, rR⟩ := hR
 have h1 := fun W (hb : Below w.heap.size w W) => redges_any p.2.2.1 AL cL W (rL.below hb) hl
 have h2 := fun W (hb : Below w.heap.size w W) => redges_any p.2.2.2 AR cR W (rR.below hb) hr
 unfold ROW sV
 have hP := (Blk.new w 30 #[.string ⟨p.1.toArray⟩, .int .i64 p.2.1, .slice AL p.2.2.1.length cL, .slice AR p.2.2.2.length cR]).alloc (.cells #[.string ⟨#[]⟩, .int .i64 0, .slice none 0 0, .slice none 0 0] 24)
 have hZ := Blk.new1 w (.cells #[.string ⟨p.1.toArray⟩, .int .i64 p.2.1, .slice AL p.2.2.1.length cL, .slice AR p.2.2.2.length cR] 30) 24 #[.string ⟨#[]⟩, .int .i64 0, .slice none 0 0, .slice none 0 0]
 have hz : ((w.alloc (.cells #[.string ⟨p.1.toArray⟩, .int .i64 p.2.1, .slice AL p.2.2.1.length cL, .slice AR p.2.2.2.length cR] 30)).alloc (.cells #[.string ⟨#[]⟩, .int .i64 0, .slice none 0 0, .slice none 0 0] 24)).heap.size = w.heap.size + 2 := by simp
 have hb0 : Below w.heap.size w ((w.alloc (.cells #[.string ⟨p.1.toArray⟩, .int .i64 p.2.1, .slice AL p.2.2.1.length cL, .slice AR p.2.2.2.length cR] 30)).alloc (.cells #[.string ⟨#[]⟩, .int .i64 0, .slice none 0 0, .slice none 0 0] 24)) := bl_alloc (bl_alloc bl_refl _) _
 go_enter Tryz.func50, Tryz.ntmps50
 go_upto_region 1 with fail
 obtain ⟨w1, hw1⟩ : ∃ X, (w.alloc (.cells #[.string ⟨p.1.toArray⟩, .int .i64 p.2.1, .slice AL p.2.2.1.length cL, .slice AR p.2.2.2.length cR] 30)).alloc (.cells #[.string ⟨#[]⟩, .int .i64 0, .slice none 0 0, .slice none 0 0] 24) = X := ⟨_, rfl⟩
 rw [hw1] at hP hZ hz hb0 ⊢
 clear hw1
 have fhP := hP.facts
 refine wp_region_ords [0, 1, 2, 3, 4, 5, 7, 8] [(6, false), (9, false)] [10, 11] (by kernel_rfl) (by kernel_rfl) (fun d _ _ _ _ h => by cases d <;> exact h) ?_
 simp only [List.map_cons, List.map_nil, List.getD_cons_zero, List.getD_cons_succ]
 repeat (go_big_quiet_step (fail))
 refine wpQuiet_nil ?_
 refine wpMid_run rfl (fun K hK => ?_)
 go_simp
 refine (h1 _ (by (repeat first|exact J0|assumption|(apply J1;assumption)|apply J2|apply J3|apply J4))).mono ?_
 rintro e w2 ⟨u2, rfl, hO2, hb2⟩
 refine hK _ _ (by (repeat first|exact J0|assumption|(apply J1;assumption)|apply J2|apply J3|apply J4)) ?_
 clear hK K
 have hP_w2 := hP.below (show Below _ _ w2 by (repeat first|exact J0|assumption|(apply J1;assumption)|apply J2|apply J3|apply J4))
 have fhP_w2 := hP_w2.facts
 have hZ_w2 := hZ.below (show Below _ _ w2 by (repeat first|exact J0|assumption|(apply J1;assumption)|apply J2|apply J3|apply J4))
 have fhZ_w2 := hZ_w2.facts
 obtain ⟨A2, c2, rfl⟩ := hO2.shape
 refine wpMid_run rfl (fun K hK => ?_)
 go_simp
 refine (h2 _ (by (repeat first|exact J0|assumption|(apply J1;assumption)|apply J2|apply J3|apply J4))).mono ?_
 rintro e w3 ⟨u3, rfl, hO3, hb3⟩
 refine hK _ _ (by (repeat first|exact J0|assumption|(apply J1;assumption)|apply J2|apply J3|apply J4)) ?_
 clear hK K
 have hP_w3 := hP.below (show Below _ _ w3 by (repeat first|exact J0|assumption|(apply J1;assumption)|apply J2|apply J3|apply J4))
 have fhP_w3 := hP_w3.facts
 have hZ_w3 := hZ.below (show Below _ _ w3 by (repeat first|exact J0|assumption|(apply J1;assumption)|apply J2|apply J3|apply J4))
 have fhZ_w3 := hZ_w3.facts
 obtain ⟨A3, c3, rfl⟩ := hO3.shape
 refine wpMid_nil ?_
 have hZ3 := hZ_w3
 go_wp2_with (refine wpList_store_blk hZ3 rfl _ _ _ rfl rfl rfl (by rfl) (by kernel_rfl) (by kernel_rfl) ?_; intro w4 hZ4 hc4; have f4 := hZ4.facts)
 have hb13 : Below w1.heap.size w1 w3 := by (repeat first|exact J0|assumption|(apply J1;assumption)|apply J2|apply J3|apply J4)
 have hbw3 : Below w.heap.size w w3 := bl_then hb13 hb0
 have hz3 := hb13.size
 have q2 : Own ec 3 w.heap.size 132 w4 (.slice A2 p.2.2.1.length c2) p.2.2.1 := ((hO2.below hb3).past hZ3 (by decide) hc4).base_mono (by have := hz; show w.heap.size ≤ w1.heap.size; omega)
 have q3 : Own ec 3 w.heap.size 132 w4 (.slice A3 p.2.2.2.length c3) p.2.2.2 := (hO3.past hZ3 (by decide) hc4).base_mono (Nat.le_trans hb0.size (show Below w1.heap.size w1 w2 by (repeat first|exact J0|assumption|(apply J1;assumption)|apply J2|apply J3|apply J4)).size)
 refine bodyPost_ret (v := .agg #[.string ⟨p.1.toArray⟩, .int .i64 p.2.1, .slice A2 p.2.2.1.length c2, .slice A3 p.2.2.2.length c3]) (by simp [results, Tryz.results50, go_sem, f4]) rfl ?_
 exact ⟨_, _, rfl, q2, q3, chg_bl hbw3 hc4 (by omega)⟩
theorem eqin_pair (d : Nat) (x y x' y' : Int) (w : World) : (Op.equalIn (d + 2) 73 (.agg #[.int .i64 x, .int .i64 y]) (.agg #[.int .i64 x', .int .i64 y'])).run Tryz.prog w = .ok (beqK x y x' y') w := by
 have hr : List.range 2 = [0, 1] := rfl
 have hc : Tryz.prog.cellsOf 3 = 1 := by kernel_rfl
 have h0 : ∀ (a b : Int) (w : World), (part 3 #[.int .i64 a, .int .i64 b] 0).run Tryz.prog w = .ok (.int .i64 a) w := fun a b w => by kernel_rfl
 have h1 : ∀ (a b : Int) (w : World), (part 3 #[.int .i64 a, .int .i64 b] 1).run Tryz.prog w = .ok (.int .i64 b) w := fun a b w => by kernel_rfl
 have hi : Tryz.prog.underlying 3 = some (.int .i64) := by kernel_rfl
 have he : ∀ (a b : Int) (w : World), (Op.equalIn (d + 1) 3 (.int .i64 a) (.int .i64 b)).run Tryz.prog w = .ok (a == b) w := fun a b w => run_equalIn_int w d 3 .i64 .i64 a b hi
 obtain ⟨i, hinf⟩ : ∃ i, Tryz.prog.info? 3 = some i := Option.isSome_iff_exists.1 (by kernel_rfl)
 rw [run_equalIn_array w (d + 1) (e := 3) (n := 2) (i := i) _ _ (by kernel_rfl) hinf, hr, hc]
 simp only [Op.eqItems, Sem.run_bind, Nat.mul_one, h0, Result.andThen_ok, he]
 unfold beqK
 by_cases q1 : x = x' <;> by_cases q2 : y = y' <;> simp [q1, q2, h1, he]
theorem neq_pair (x y x' y' : Int) (w : World) : (binOp .neq 73 (.agg #[.int .i64 x, .int .i64 y]) (.agg #[.int .i64 x', .int .i64 y'])).run Tryz.prog w = .ok (.bool (!beqK x y x' y')) w := by
 simp only [binOp]
 simp [Op.equal, Op.maxDepth, eqin_pair 9998]
theorem sameRows_any {v u : Value} (l r : List Knot) (w : World) (h : SlK w v l) (h' : SlK w u r) : Calls Tryz.prog 48 #[v, u] w (RV w (.bool (decide (l = r)))) := by
 obtain ⟨A, c, rfl, hlc, hcm, h⟩ := h
 obtain ⟨A', c', rfl, hlc', hcm', h'⟩ := h'
 have hl : l.length ≤ maxLen := Nat.le_trans hlc hcm
 have hl' : r.length ≤ maxLen := Nat.le_trans hlc' hcm'
 unfold maxLen at hl hl'
 by_cases hlen : l.length = r.length
 ·have he2 : ((l.length : Int) != (r.length : Int)) = false := by simp [hlen]
  go_enter Tryz.func48, Tryz.ntmps48
  go_wp2
  go_loopw [5] (fun i wr => ∃ k : Nat, k ≤ l.length ∧ i = .int .i64 k ∧ Hid (decide (l = r) = decide (l.drop k = r.drop k)) ∧ Below w.heap.size w wr) (fun i _ => l.length - (intOf i).toNat)
  case atStart => exact ⟨0, Nat.zero_le _, rfl, by simp [Hid], by (repeat first|exact J0|assumption|(apply J1;assumption)|apply J2|apply J3|apply J4)⟩
  case round =>
   obtain ⟨k, hk, rfl, H, hbw⟩ := hrel
   by_cases hlt : k < l.length
   ·have hr := h.below hbw
    have hr' := h'.below hbw
    obtain ⟨b, off, rfl, hb, e0, e1⟩ := hr.knot hlt
    obtain ⟨b', off', rfl, hb', e0', e1'⟩ := hr'.knot (hlen ▸ hlt)
    have HD := Lib.hid (same_drop hlen hlt)
    have hlt' : k < r.length := hlen ▸ hlt
    obtain ⟨g, hg⟩ : ∃ g, beqK l[k].1 l[k].2 r[k].1 r[k].2 = g := ⟨_, rfl⟩
    have HG : Hid (decide (l[k] = r[k]) = g) := hg
    have hN := neq_pair l[k].1 l[k].2 r[k].1 r[k].2
    rw [hg] at hN
    obtain ⟨⟨x, y⟩, hx⟩ : ∃ z, l[k] = z := ⟨_, rfl⟩
    obtain ⟨⟨x', y'⟩, hx'⟩ : ∃ z, r[k] = z := ⟨_, rfl⟩
    rw [hx] at e0 e1 HG HD hN
    rw [hx'] at e0' e1' HG HD hN
    simp only at e0 e1 e0' e1' hN
    clear hg hx hx'
    cases g
    ·go_wp2
     refine wp_region_ords [0, 1, 2, 3, 4, 5, 6, 7, 8] [] [] (by kernel_rfl) (by kernel_rfl) (fun d _ _ _ _ h => by cases d <;> exact h) ?_
     simp only [List.map_cons, List.map_nil, List.getD_cons_zero, List.getD_cons_succ]
     repeat (go_big_quiet_step (fail))
     refine wpQuiet_nil ?_
     refine wpMid_nil ?_
     go_wp2
     go_ret
     exact ⟨ret_bool (by rw [H.out, HD.out, HG.out]; rfl), by (repeat first|exact J0|assumption|(apply J1;assumption)|apply J2|apply J3|apply J4)⟩
    ·go_wp2
     refine wp_region_ords [0, 1, 2, 3, 4, 5, 6, 7, 8] [] [] (by kernel_rfl) (by kernel_rfl) (fun d _ _ _ _ h => by cases d <;> exact h) ?_
     simp only [List.map_cons, List.map_nil, List.getD_cons_zero, List.getD_cons_succ]
     repeat (go_big_quiet_step (fail))
     refine wpQuiet_nil ?_
     refine wpMid_nil ?_
     go_wp2
     go_roundw
     case rel => exact ⟨k + 1, by omega, by go_num, by rw [H.out, HD.out, HG.out]; rfl, by (repeat first|exact J0|assumption|(apply J1;assumption)|apply J2|apply J3|apply J4)⟩
     case measure => simp [intOf]; omega
   ·have hkl : k = l.length := by omega
    go_wp2
    go_ret
    refine ⟨ret_bool ?_, by (repeat first|exact J0|assumption|(apply J1;assumption)|apply J2|apply J3|apply J4)⟩
    rw [H.out, hkl, List.drop_length, hlen, List.drop_length]; rfl
 ·have he2 : ((l.length : Int) != (r.length : Int)) = true := by simp; omega
  have hd : Hid (decide (l = r) = false) := by simp [Hid]; rintro rfl; exact hlen rfl
  go_enter Tryz.func48, Tryz.ntmps48
  go_wp2
  go_ret
  exact ⟨ret_bool hd.out.symm, by (repeat first|exact J0|assumption|(apply J1;assumption)|apply J2|apply J3|apply J4)⟩
def wingP : Pan := ([119, 105, 110, 103], 2, [([78], 1, false)], [([66, 66], 1, true)])
theorem wing_any (w : World) : Calls Tryz.prog 44 #[] w (fun e w' => ∃ vL vR, e = .returned (.agg #[sV wingP.1, .int .i64 wingP.2.1, vL, vR]) ∧ SlE w' vL wingP.2.2.1 ∧ SlE w' vR wingP.2.2.2 ∧ Below w.heap.size w w') := by
 have hZ := ((Blk.new w 30 #[.string ⟨#[]⟩, .int .i64 0, .slice none 0 0, .slice none 0 0]).alloc (.cells #[.string ⟨#[78]⟩, .int .i64 1, .bool false] 107)).alloc (.cells #[.string ⟨#[66, 66]⟩, .int .i64 1, .bool true] 107)
 have hl := (Sl.oneG (enc := ec) (sz := 3) (w.alloc (.cells #[.string ⟨#[]⟩, .int .i64 0, .slice none 0 0, .slice none 0 0] 30)) 107 (([78], 1, false) : Edg) #[.string ⟨#[78]⟩, .int .i64 1, .bool false] rfl).alloc (.cells #[.string ⟨#[66, 66]⟩, .int .i64 1, .bool true] 107)
 have hr := Sl.oneG (enc := ec) (sz := 3) ((w.alloc (.cells #[.string ⟨#[]⟩, .int .i64 0, .slice none 0 0, .slice none 0 0] 30)).alloc (.cells #[.string ⟨#[78]⟩, .int .i64 1, .bool false] 107)) 107 (([66, 66], 1, true) : Edg) #[.string ⟨#[66, 66]⟩, .int .i64 1, .bool true] rfl
 go_enter Tryz.func44, Tryz.ntmps44
 go_wp2_with (refine wpList_store_blk hZ rfl _ _ _ rfl rfl rfl (by rfl) (by kernel_rfl) (by kernel_rfl) ?_; intro w4 hZ4 hc4; have f4 := hZ4.facts)
 have hb : Below w.heap.size w w4 := chg_bl (bl_alloc (bl_alloc (bl_alloc bl_refl _) _) _) hc4 (Nat.le_refl _)
 refine bodyPost_ret (v := .agg #[.string ⟨#[119, 105, 110, 103]⟩, .int .i64 2, .slice (some ⟨w.heap.size + 1, 0, none⟩) 1 1, .slice (some ⟨w.heap.size + 1 + 1, 0, none⟩) 1 1]) (by simp [results, Tryz.results44, go_sem, f4]) rfl ?_
 refine ⟨_, _, rfl, ?_, ?_, hb⟩
 ·obtain ⟨A, c, e, h1, h2, h3⟩ := hl
  exact ⟨A, c, by simpa [wingP] using e, h1, h2, h3.chgN hc4 (fun b off e2 => by subst e2; simp at e; simp; omega)⟩
 ·obtain ⟨A, c, e, h1, h2, h3⟩ := hr
  exact ⟨A, c, by simpa [wingP] using e, h1, h2, h3.chgN hc4 (fun b off e2 => by subst e2; simp at e; simp; omega)⟩
end Go.Proofs.YtkkefahobjlagaaGreatDoor

/- The reader of panels: a line, walked. Conditions: the variables are laid. -/
import Derived.Test.YtmjfkgbbhplhcaaGreatDoorG35
namespace Go.Proofs.YtmjfkgbbhplhcaaGreatDoor
open Go.RowKit Go.ChangeMaps
set_option maxHeartbeats 4000000
set_option maxRecDepth 100000

attribute [local go_sem] Oper.semAt_some
theorem idxNil_any (x : Value) (w : World) : Calls Tryz.prog 145 #[.slice none 0 0, x] w (RV w (.int .i64 (-1))) := by
  go_enter Tryz.func145, Tryz.ntmps145
  go_wp2
  go_loopw [8] (fun i wr => i = .int .i64 0 ∧ Below w.heap.size w wr) (fun _ _ => 0)
  case atStart => exact ⟨rfl, bl_refl⟩
  case round =>
    obtain ⟨rfl, hbw⟩ := hrel
    go_wp2
    go_ret
    exact ⟨rfl, hbw⟩
theorem contNil_any (x : Value) (w : World) : Calls Tryz.prog 116 #[.slice none 0 0, x] w (RV w (.bool false)) := by
  go_enter Tryz.func116, Tryz.ntmps116
  go_wp2_with (go_at_call 145; refine (idxNil_any _ _).mono ?_; rintro e w1 ⟨rfl, hb1⟩)
  go_ret
  exact ⟨rfl, hb1⟩
theorem contRow_any (g : Nat) (l : List Str) (st : Str) (w : World) (hB : Blk w g 9 (l.map sV).toArray) (hl : l.length ≤ 10) : Calls Tryz.prog 116 #[.slice (some ⟨g, 0, none⟩) l.length l.length, sV st] w (RV w (.bool (decide (st ∈ l)))) := by
  have h := str_slices_Contains_string g 0 l.length l.length (l.map fun s => ⟨s.toArray⟩) ⟨st.toArray⟩ w (by simp) (by omega) (fun j hj => by
    rw [hB.cell, Nat.zero_add]
    simp at hj
    simp [List.getElem?_eq_getElem hj, List.getD_eq_getElem?_getD, sV])
  refine h.mono ?_
  rintro e w' ⟨rfl, rfl⟩
  refine ⟨?_, bl_refl⟩
  have e : Lib.containsS ((l.map fun s => (⟨s.toArray⟩ : ByteArray)).take l.length) ⟨st.toArray⟩ = decide (st ∈ l) := by
    rw [Bool.eq_iff_iff, Lib.containsS_iff, decide_eq_true_iff, List.take_of_length_le (by simp), List.mem_map]
    constructor
    · rintro ⟨a, ha, he⟩
      have : a = st := by
        have := congrArg (fun x : ByteArray => x.data.toList) he
        simpa using this
      exact this ▸ ha
    · exact fun h => ⟨st, h, rfl⟩
  rw [e]
/-- the lines that may follow, looked up -/
theorem cont_any (g : Nat) (s st : Str) (w : World) (k1 : Blk w (g + 1) 9 (pairA [] wEnd)) (k2 : Blk w (g + 2) 9 (pairA wPan wLeft)) (k3 : Blk w (g + 3) 9 (tripA wPan wLeft wRight)) (k4 : Blk w (g + 4) 9 (tripA wPan wLeft wRight)) :
    Calls Tryz.prog 116 #[slV (folV g s), sV st] w (RV w (.bool (decide (st ∈ folL s)))) := by
  unfold folV folL
  by_cases q1 : s = wPan
  · simp only [q1, if_true]
    exact contRow_any (g + 1) [[], wEnd] st w k1 (by simp)
  · by_cases q2 : s = wLeft
    · rw [if_neg q1, if_neg q1, if_pos q2, if_pos q2]
      exact contRow_any (g + 2) [wPan, wLeft] st w k2 (by simp)
    · by_cases q3 : s = wRight
      · rw [if_neg q1, if_neg q1, if_neg q2, if_neg q2, if_pos q3, if_pos q3]
        exact contRow_any (g + 3) [wPan, wLeft, wRight] st w k3 (by simp)
      · by_cases q4 : s = wEnd
        · rw [if_neg q1, if_neg q1, if_neg q2, if_neg q2, if_neg q3, if_neg q3, if_pos q4, if_pos q4]
          exact contRow_any (g + 4) [wPan, wLeft, wRight] st w k4 (by simp)
        · rw [if_neg q1, if_neg q1, if_neg q2, if_neg q2, if_neg q3, if_neg q3, if_neg q4, if_neg q4]
          have : decide (st ∈ ([] : List Str)) = false := by simp
          rw [this]
          exact contNil_any _ w
/-! ## the reader's facts, carried over -/
theorem OpnAt.to {nb : Nat} {W W' : World} {x : PnV} {o : Option Pan} (hz : W.heap.size ≤ W'.heap.size) (f : ∀ b v l, Own ec 3 b 90 W v l → Own ec 3 b 90 W' v l) (h : OpnAt nb W x o) : OpnAt nb W' x o := by
  cases o with
  | none => trivial
  | some p =>
    obtain ⟨nr, n1, n2, h1, h2, h3, h4, h5, h6⟩ := h
    exact ⟨nr, n1, Nat.le_trans n2 hz, h1, h2, f _ _ _ h3, h4, f _ _ _ h5, h6⟩
theorem RdrAt.below {base Br n : Nat} {W W' : World} {l : List Pan} {o : Option Pan} {st : Str} (h : RdrAt base Br n W l o st) (hb : Below W.heap.size W W') : RdrAt base Br n W' l o st := by
  obtain ⟨xs, vP, x, wb, h1, h2, h3, h5, h6, h7, h8⟩ := h
  exact ⟨xs, vP, x, wb, h1.below hb, h2.below hb, h3, h5.then_ hb, h6, h7.to hb.size (fun _ _ _ ho => ho.below hb), h8⟩
theorem RdrAt.chgB {base Br n B : Nat} {W W' : World} {l : List Pan} {o : Option Pan} {st : Str} (h : RdrAt base Br n W l o st) (hB : B < base) (hne : Br ≠ B) (hc : Chg [B] W W') : RdrAt base Br n W' l o st := by
  obtain ⟨xs, vP, x, wb, h1, h2, h3, h5, h6, h7, h8⟩ := h
  refine ⟨xs, vP, x, wb, h1.chg hc (by simpa using hne), h2.chg hc (by simp; omega), h3, h5.chg hB hc, h6, ?_, h8⟩
  cases o with
  | none => trivial
  | some p =>
    obtain ⟨nr, n1, n2, m1, m2, m3, m4, m5, m6⟩ := h7
    exact ⟨nr, n1, Nat.le_trans n2 hc.size, m1, m2, m3.chg hc (by simp; omega), m4, m5.chg hc (by simp; omega), m6⟩
theorem RdrAt.from {base Br n D : Nat} {W W' : World} {l : List Pan} {o : Option Pan} {st : Str} {row : Option Nat} (h : RdrAt base Br n W l o st) (g : W.grownBy W' row) (hr : ∀ r, row = some r → D ≤ r ∧ ∃ o : Obj, W.heap[r]? = some o ∧ o.isCells = false) : RdrAt base Br n W' l o st := by
  obtain ⟨xs, vP, x, wb, h1, h2, h3, h5, h6, h7, h8⟩ := h
  exact ⟨xs, vP, x, wb, h1.grown g (nc_blk h1 hr), h2.kept g (nc_own h2 hr), h3, h5.from g hr, h6, h7.to g.size (fun _ _ _ ho => ho.kept g (nc_own ho hr)), h8⟩
theorem RdrAt.state {base Br n : Nat} {W : World} {l : List Pan} {o : Option Pan} {st : Str} (h : RdrAt base Br n W l o st) (o' : Option Pan) (ho : o' = none ∨ o' = o) (s : Str) (hs : s.length ≤ 100000) (hc : ∀ p, o' = some p → s = wPan ∨ s = wLeft → p.2.2.2 = []) :
    RdrAt base Br n (W.setCell ⟨Br, 5, none⟩ (sV s)) l o' s := by
  obtain ⟨xs, vP, x, wb, h1, h2, h3, h5, h6, h7, h8, h9, h10, h11⟩ := h
  have hset : ∀ {α : Type} {enc : α → List Value} {sz b : Nat} {e : TypeId} {v : Value} {r : List α}, 133 ≠ e → Own enc sz b e W v r → Own enc sz b e (W.setCell ⟨Br, 5, none⟩ (sV s)) v r := fun he ho => ho.set (p := ⟨Br, 5, none⟩) (Ne.symm (ho.ne_blk h1 he)) _
  refine ⟨xs, vP, x, wb, ?_, hset (by decide) h2, h3, h5.setIn h1 (by decide) 5 _, h6, ?_, h8, h9, ?_, hs⟩
  · have := h1.set_ 5 (sV s)
    simpa using this
  · rcases ho with rfl | rfl
    · trivial
    · exact h7.to (by simp [World.setCell]) (fun _ _ _ ho => hset (by decide) ho)
  · intro p hp
    rcases ho with rfl | rfl
    · cases hp
    · obtain ⟨q1, q2, q3, _⟩ := h10 p hp
      exact ⟨q1, q2, q3, hc p hp⟩
theorem edge_any (base Br n : Nat) (W : List Str) (A : Option Addr) (c : Nat) (l : List Pan) (p : Pan) (st : Str) (w : World) (hL : Lay w) (hr : RdrAt base Br n w l (some p) st) (hW : Rd strc 1 w A W) (hlen : W.length ≤ 100000) (hs : ∀ s ∈ W, s.length ≤ 100000) (hn : n + 1 ≤ 20000) (hst : W[0]? = some st) (hnp : st ≠ wPan) :
    Calls Tryz.prog 119 #[.pointer (some ⟨Br, 0, none⟩), .slice A W.length c] w (fun e w' => e = .returned (.int .i64 (edgeE W)) ∧ Wrt base Br w w' ∧ (edgeE W = 0 → RdrAt base Br (n + 1) w' l (some (edgeP W p)) st)) := by
  by_cases hbad : W.length ≠ 4 ∨ W.getD 1 [] = [] ∨ (W.getD 3 [] ≠ wOut ∧ W.getD 3 [] ≠ wIn)
  · have HE : edgeE W = 25 := by
      unfold edgeE
      rw [if_pos]
      rcases hbad with h | h | h
      · exact .inl h
      · exact .inr (.inl h)
      · exact .inr (.inr (.inl h))
    rw [HE]
    have hbz : base ≤ w.heap.size := by
      obtain ⟨_, _, _, _, _, _, _, k1, k2, _⟩ := id hr
      exact Nat.le_trans k2 k1.size
    refine (edge_bad w.heap.size Br W A c w hW hlen hbad).mono ?_
    rintro e w' ⟨h1, h2⟩
    exact ⟨h1, Wrt.of_below h2 hbz, fun h => absurd h (by decide)⟩
  · have h4 : W.length = 4 := Classical.byContradiction fun h => hbad (.inl h)
    have h1 : W.getD 1 [] ≠ [] := fun h => hbad (.inr (.inl h))
    have h3 : W.getD 3 [] = wOut ∨ W.getD 3 [] = wIn := by
      by_cases h : W.getD 3 [] = wOut
      · exact .inl h
      · exact .inr (Classical.byContradiction fun h' => hbad (.inr (.inr ⟨h, h'⟩)))
    exact edge_num base Br n W A c l p st w hL hr hW hs hn hst hnp h4 h1 h3
/-! ## read -/
def readW (line : Str) : List Str := wordsL (Lib.trimSuffix line [10])
def rdE (W : List Str) (ok : Bool) (l : List Pan) (o : Option Pan) (st : Str) : Int :=
  if ok = false ∨ st ∉ folL (W.getD 0 []) then 25 else if W.getD 0 [] = wPan then begE W l else o.elim 25 fun p => if W.getD 0 [] = wEnd then finE W l p else edgeE W
def rdN (W : List Str) (l : List Pan) (o : Option Pan) : List Pan × Option Pan :=
  if W.getD 0 [] = wPan then (l, some (begP W)) else o.elim (l, none) fun p => if W.getD 0 [] = wEnd then (l ++ [p], none) else (l, some (edgeP W p))
def readE (line : Str) (l : List Pan) (o : Option Pan) (st : Str) : Int := rdE (readW line) (Lib.hasSuffix line [10]) l o st
def readN (line : Str) (l : List Pan) (o : Option Pan) : List Pan × Option Pan := rdN (readW line) l o
theorem trim_le (s : Str) : (Lib.trimSuffix s [10]).length ≤ s.length := by
  unfold Lib.trimSuffix
  split
  · simp
  · exact Nat.le_refl _
theorem read_any (base Br n : Nat) (line : Str) (l : List Pan) (o : Option Pan) (st : Str) (w : World) (hL : ∀ W, Wrt base Br w W → Lay W) (hr : RdrAt base Br n w l o st) (hline : line.length ≤ 50000) (hn : n + 1 ≤ 20000) (hcon : st = wPan ∨ st = wLeft ∨ st = wRight → o ≠ none) :
    Calls Tryz.prog 77 #[.pointer (some ⟨Br, 0, none⟩), sV line] w (fun e w' => e = .returned (.int .i64 (readE line l o st)) ∧ Wrt base Br w w' ∧ (readE line l o st = 0 → RdrAt base Br (n + 1) w' (readN line l o).1 (readN line l o).2 ((readW line).getD 0 []))) := by
  have hc1 := cutSuf_any line (by omega)
  have htl := trim_le line
  have hc2 := fun W hL => split_any (Lib.trimSuffix line [10]) (by omega) W hL
  have hws : ∀ s ∈ readW line, s.length ≤ 100000 := fun s hs => by have := wordsL_size hs; omega
  have hwl : 0 < (readW line).length := by unfold readW; rw [wordsL_len]; omega
  have hwl2 : (readW line).length ≤ 50001 := by have := wordsL_le (Lib.trimSuffix line [10]); unfold readW; omega
  have HE : Hid (readE line l o st = rdE (readW line) (Lib.hasSuffix line [10]) l o st) := rfl
  obtain ⟨E, hE⟩ : ∃ E, readE line l o st = E := ⟨_, rfl⟩
  rw [hE] at HE ⊢
  have hrw : wordsL (Lib.trimSuffix line [10]) = readW line := rfl
  rw [hrw] at hc2
  obtain ⟨tr, htr⟩ : ∃ E, Lib.trimSuffix line [10] = E := ⟨_, rfl⟩
  obtain ⟨ok, hok⟩ : ∃ E, Lib.hasSuffix line [10] = E := ⟨_, rfl⟩
  have HN : Hid (readN line l o = rdN (readW line) l o) := rfl
  obtain ⟨N, hN⟩ : ∃ E, readN line l o = E := ⟨_, rfl⟩
  rw [hN] at HN ⊢
  rw [htr] at hc1 hc2
  rw [hok] at hc1 HE
  obtain ⟨Ws, hWs⟩ : ∃ E, readW line = E := ⟨_, rfl⟩
  rw [hWs] at hc2 hws hwl hwl2 HE HN ⊢
  obtain ⟨W0, hW0⟩ : ∃ s, Ws[0]? = some s := ⟨_, List.getElem?_eq_getElem hwl⟩
  have hg0 : Ws.getD 0 [] = W0 := by rw [List.getD_eq_getElem?_getD, hW0]; rfl
  rw [hg0]
  obtain ⟨xs, vP, ⟨nm, wd, ⟨La, Ln, Lc⟩, ⟨Ra, Rn, Rc⟩⟩, wb, hBr, hrest⟩ := id hr
  simp only [slV] at hBr
  have fB := hBr.facts
  have hzb : base ≤ w.heap.size := Nat.le_trans hrest.2.2.2.1 hrest.2.2.1.size
  have hf := folMap
  clear hE hN htr hok hWs hrw htl
  unfold sV at hc1 hc2 hBr fB ⊢
  cases ok
  · have HE2 : Hid (E = 25) := by unfold Hid; rw [HE.out]; unfold rdE; rw [if_pos (.inl rfl)]
    go_enter Tryz.func77, Tryz.ntmps77
    go_upto_region 4 with (first | (go_at_call 114; refine (hc1 _).mono ?_; rintro e w1 ⟨rfl, hw1⟩; replace hw1 := hw1.symm; subst hw1) | (go_at_call 115; refine (hc2 _ (hL _ Wrt.refl)).mono ?_; rintro e w2 ⟨c2, rfl, hr2, hk1, hk2, hb2⟩; obtain ⟨X1, X2, X3, X4, p1, z1, p2, z2, p3, z3, p4, z4, hb4, hlk, k1, k2, k3, k4⟩ := hf w2; simp only [sV, pairA, tripA, wPan, wLeft, wRight, wEnd] at p1 p2 p3 p4))
    have hbw : Below w.heap.size w X4 := hb4.mono hb2.size |> hb2.trans
    refine wp_region_ords [0, 1, 2, 3, 4, 5, 6, 7, 8, 9, 10, 11] [] [12, 13, 14] (by kernel_rfl) (by kernel_rfl) (fun d _ _ _ _ h => by cases d <;> exact h) ?_
    simp only [List.map_cons, List.map_nil, List.getD_cons_zero, List.getD_cons_succ]
    repeat (go_big_quiet_step (fail))
    refine wpQuiet_nil ?_
    refine wpMid_nil ?_
    go_wp2
    go_ret
    exact ⟨by rw [HE2.out]; rfl, (Wrt.of_below hbw hzb).then_ (bl_drew bl_refl) (Nat.le_trans hzb hbw.size), fun h => by rw [HE2.out] at h; exact absurd h (by decide)⟩
  · obtain ⟨q, hq⟩ : ∃ q, decide (st ∈ folL W0) = q := ⟨_, rfl⟩
    obtain ⟨B0, hB0⟩ : ∃ B : ByteArray, ({ data := W0.toArray } : ByteArray) = B := ⟨_, rfl⟩
    have HB0 := Lib.hid hB0
    have hBl0 : B0.toList = W0 := by rw [← hB0]; simp [ByteArray.toList_eq]
    obtain ⟨tp, htp⟩ : ∃ t, (W0 == wPan) = t := ⟨_, rfl⟩
    obtain ⟨te, hte⟩ : ∃ t, (W0 == wEnd) = t := ⟨_, rfl⟩
    have g1 : (B0.toList == [112, 97, 110, 101, 108]) = tp := by rw [hBl0, ← htp]; rfl
    have g2 : (B0.toList == [101, 110, 100]) = te := by rw [hBl0, ← hte]; rfl
    have HQ := Lib.hid hq
    have HTP := Lib.hid htp
    have HTE := Lib.hid hte
    clear hB0 hBl0 htp hte hq
    cases q
    · have HE2 : Hid (E = 25) := by
        unfold Hid; rw [HE.out]; unfold rdE; rw [if_pos (.inr (by rw [hg0]; exact of_decide_eq_false HQ.out))]
      go_enter Tryz.func77, Tryz.ntmps77
      go_upto_region 4 with (first | (go_at_call 114; refine (hc1 _).mono ?_; rintro e w1 ⟨rfl, hw1⟩; replace hw1 := hw1.symm; subst hw1) | (go_at_call 115; refine (hc2 _ (hL _ Wrt.refl)).mono ?_; rintro e w2 ⟨c2, rfl, hr2, hk1, hk2, hb2⟩; obtain ⟨X1, X2, X3, X4, p1, z1, p2, z2, p3, z3, p4, z4, hb4, hlk, k1, k2, k3, k4⟩ := hf w2; simp only [sV, pairA, tripA, wPan, wLeft, wRight, wEnd] at p1 p2 p3 p4))
      have hbw : Below w.heap.size w X4 := hb4.mono hb2.size |> hb2.trans
      have hr4 := hr2.below hb4
      obtain ⟨bw, ow, hbe, hlt4, c0⟩ := hr4.str hW0
      obtain ⟨rfl, rfl⟩ : w.heap.size = bw ∧ 0 = ow := by simpa using hbe
      have hB4 := hBr.below hbw
      have fB4 := hB4.facts
      have hlkg : ∀ g : Bel X4.heap.size X4, (Instr.lookup 182 (.map (some w2.heap.size)) (.string B0) false).run Tryz.prog g.val = .ok (slV (folV w2.heap.size W0)) g.val := fun g => by rw [← HB0.out]; exact hlk W0 _ g.below
      have hct := cont_any w2.heap.size W0 st X4.drew k1.drew k2.drew k3.drew k4.drew
      rw [HQ.out] at hct
      unfold sV at hct c0
      rw [HB0.out] at c0
      simp only [Nat.add_zero] at c0
      clear p1 p2 p3 p4 z1 z2 z3 z4 hlk fB
      refine wp_region_ords [0, 1, 2, 3, 4, 5, 6, 7, 8, 9, 10, 11] [] [12, 13, 14] (by kernel_rfl) (by kernel_rfl) (fun d _ _ _ _ h => by cases d <;> exact h) ?_
      simp only [List.map_cons, List.map_nil, List.getD_cons_zero, List.getD_cons_succ]
      repeat (go_big_quiet_step (fail))
      refine wpQuiet_nil ?_
      refine wpMid_nil ?_
      go_wp2_with (go_at_call 116; refine hct.mono ?_; rintro e w5 ⟨rfl, hb5⟩)
      go_ret
      exact ⟨by rw [HE2.out]; rfl, (Wrt.of_below hbw hzb).then_ (bl_drew bl_refl |> bl_then hb5) (Nat.le_trans hzb hbw.size), fun h => by rw [HE2.out] at h; exact absurd h (by decide)⟩
    · have hw0l : W0.length ≤ 100000 := hws _ (List.mem_of_getElem? hW0)
      have hmem : st ∈ folL W0 := of_decide_eq_true HQ.out
      have HEq : Hid (E = if W0 = wPan then begE Ws l else o.elim 25 fun p => if W0 = wEnd then finE Ws l p else edgeE Ws) := by
        unfold Hid; rw [HE.out]; unfold rdE; rw [hg0, if_neg (fun h => h.elim (fun e => by cases e) (fun e => e hmem))]
      have HNq : Hid (N = if W0 = wPan then (l, some (begP Ws)) else o.elim (l, none) fun p => if W0 = wEnd then (l ++ [p], none) else (l, some (edgeP Ws p))) := by
        unfold Hid; rw [HN.out]; unfold rdN; rw [hg0]
      cases tp
      · have hnp : W0 ≠ wPan := by simpa using HTP.out
        have hst3 : st = wPan ∨ st = wLeft ∨ st = wRight := by
          unfold folL at hmem
          rw [if_neg hnp] at hmem
          split at hmem
          · simp at hmem; rcases hmem with h | h <;> simp [h]
          · split at hmem
            · simpa using hmem
            · split at hmem
              · simpa using hmem
              · simp at hmem
        obtain ⟨p, hp⟩ : ∃ p, o = some p := by
          cases o with
          | none => exact absurd rfl (hcon hst3)
          | some p => exact ⟨p, rfl⟩
        subst hp
        have HCC : ∀ p', some p = some p' → W0 = wPan ∨ W0 = wLeft → p'.2.2.2 = [] := by
          intro p' e1 e2
          cases e1
          have e3 : W0 = wLeft := e2.resolve_left hnp
          have e4 : st = wPan ∨ st = wLeft := by
            rw [e3] at hmem
            have : folL wLeft = [wPan, wLeft] := rfl
            rw [this] at hmem
            simpa using hmem
          obtain ⟨_, _, _, _, _, _, _, _, _, _, _, _, q10, _⟩ := id hr
          exact (q10 p rfl).2.2.2 e4
        cases te
        · have hne : W0 ≠ wEnd := by simpa using HTE.out
          have HE3 : Hid (E = edgeE Ws ∧ N = (l, some (edgeP Ws p))) := by
            constructor
            · rw [HEq.out, if_neg hnp]; simp only [Option.elim, if_neg hne]
            · rw [HNq.out, if_neg hnp]; simp only [Option.elim, if_neg hne]
          clear HEq HNq HE HN hmem hst3 hcon
          go_enter Tryz.func77, Tryz.ntmps77
          go_upto_region 4 with (first | (go_at_call 114; refine (hc1 _).mono ?_; rintro e w1 ⟨rfl, hw1⟩; replace hw1 := hw1.symm; subst hw1) | (go_at_call 115; refine (hc2 _ (hL _ Wrt.refl)).mono ?_; rintro e w2 ⟨c2, rfl, hr2, hk1, hk2, hb2⟩; obtain ⟨X1, X2, X3, X4, p1, z1, p2, z2, p3, z3, p4, z4, hb4, hlk, k1, k2, k3, k4⟩ := hf w2; simp only [sV, pairA, tripA, wPan, wLeft, wRight, wEnd] at p1 p2 p3 p4))
          have hbw : Below w.heap.size w X4 := hb4.mono hb2.size |> hb2.trans
          have hr4 := hr2.below hb4
          obtain ⟨bw, ow, hbe, hlt4, c0⟩ := hr4.str hW0
          obtain ⟨rfl, rfl⟩ : w.heap.size = bw ∧ 0 = ow := by simpa using hbe
          have hB4 := hBr.below hbw
          have fB4 := hB4.facts
          have hlkg : ∀ g : Bel X4.heap.size X4, (Instr.lookup 182 (.map (some w2.heap.size)) (.string B0) false).run Tryz.prog g.val = .ok (slV (folV w2.heap.size W0)) g.val := fun g => by rw [← HB0.out]; exact hlk W0 _ g.below
          have hct := cont_any w2.heap.size W0 st X4.drew k1.drew k2.drew k3.drew k4.drew
          rw [HQ.out] at hct
          unfold sV at hct c0
          rw [HB0.out] at c0
          simp only [Nat.add_zero] at c0
          clear p1 p2 p3 p4 z1 z2 z3 z4 hlk fB
          refine wp_region_ords [0, 1, 2, 3, 4, 5, 6, 7, 8, 9, 10, 11] [] [12, 13, 14] (by kernel_rfl) (by kernel_rfl) (fun d _ _ _ _ h => by cases d <;> exact h) ?_
          simp only [List.map_cons, List.map_nil, List.getD_cons_zero, List.getD_cons_succ]
          repeat (go_big_quiet_step (fail))
          refine wpQuiet_nil ?_
          refine wpMid_nil ?_
          go_upto_region 7 with (go_at_call 116; refine hct.mono ?_; rintro e w5 ⟨rfl, hb5⟩; have hB5 := (hB4.drew).below hb5; have f5 := hB5.facts; have c5 : w5.cell? ⟨w.heap.size, 0, none⟩ = some (.string B0) := (hb5.cell (p := ⟨w.heap.size, 0, none⟩) hlt4).trans c0)
          have hbw5 : Below w.heap.size w w5 := (hbw.drew).trans (hb5.mono hbw.size)
          have hr6 := (hr4.below (bl_then hb5 (bl_drew bl_refl))).chgN (Chg.refl.setIn (S := [Br]) (p := ⟨Br, 5, none⟩) (by simp) (.string B0)) (fun b off e => by
            obtain ⟨rfl, _⟩ : w.heap.size = b ∧ 0 = off := by simpa using e
            have := hBr.lt
            simp
            omega)
          have hR6 := (hr.below hbw5).state (some p) (.inr rfl) W0 hw0l HCC
          have hbz6 : Wrt base Br w (w5.setCell ⟨Br, 5, none⟩ (.string B0)) := (Wrt.of_below hbw5 hzb).set hB5 5 _
          unfold sV at hR6
          rw [HB0.out] at hR6
          obtain ⟨w6, hw6⟩ : ∃ X, w5.setCell ⟨Br, 5, none⟩ (.string B0) = X := ⟨_, rfl⟩
          rw [hw6] at hr6 hR6 hbz6 ⊢
          obtain ⟨b6, o6, hbe6, hlt6, c6⟩ := hr6.str hW0
          obtain ⟨rfl, rfl⟩ : w.heap.size = b6 ∧ 0 = o6 := by simpa using hbe6
          unfold sV at c6
          rw [HB0.out] at c6
          simp only [Nat.add_zero] at c6
          have hL6 := hL _ hbz6
          clear hw6 c5 f5 hB5 hb5 hbw5 c0 hlt4 hr4 fB4 hB4 hlkg hct k1 k2 k3 k4 hb4 hbw
          go_wp2_with (go_at_call 119; refine (edge_any base Br n Ws _ c2 l p W0 w6 hL6 hR6 hr6 (by omega) hws hn hW0 hnp).mono ?_; rintro e w7 ⟨rfl, hb7, hR7⟩)
          go_ret
          refine ⟨by rw [HE3.out.1]; rfl, hbz6.trans hb7, fun h => ?_⟩
          rw [HE3.out.2]
          exact hR7 (HE3.out.1 ▸ h)
        · have he : W0 = wEnd := by simpa using HTE.out
          have HE3 : Hid (E = finE Ws l p ∧ N = (l ++ [p], none)) := by
            constructor
            · rw [HEq.out, if_neg hnp]; simp only [Option.elim, if_pos he]
            · rw [HNq.out, if_neg hnp]; simp only [Option.elim, if_pos he]
          clear HEq HNq HE HN hmem hst3 hcon he
          go_enter Tryz.func77, Tryz.ntmps77
          go_upto_region 4 with (first | (go_at_call 114; refine (hc1 _).mono ?_; rintro e w1 ⟨rfl, hw1⟩; replace hw1 := hw1.symm; subst hw1) | (go_at_call 115; refine (hc2 _ (hL _ Wrt.refl)).mono ?_; rintro e w2 ⟨c2, rfl, hr2, hk1, hk2, hb2⟩; obtain ⟨X1, X2, X3, X4, p1, z1, p2, z2, p3, z3, p4, z4, hb4, hlk, k1, k2, k3, k4⟩ := hf w2; simp only [sV, pairA, tripA, wPan, wLeft, wRight, wEnd] at p1 p2 p3 p4))
          have hbw : Below w.heap.size w X4 := hb4.mono hb2.size |> hb2.trans
          have hr4 := hr2.below hb4
          obtain ⟨bw, ow, hbe, hlt4, c0⟩ := hr4.str hW0
          obtain ⟨rfl, rfl⟩ : w.heap.size = bw ∧ 0 = ow := by simpa using hbe
          have hB4 := hBr.below hbw
          have fB4 := hB4.facts
          have hlkg : ∀ g : Bel X4.heap.size X4, (Instr.lookup 182 (.map (some w2.heap.size)) (.string B0) false).run Tryz.prog g.val = .ok (slV (folV w2.heap.size W0)) g.val := fun g => by rw [← HB0.out]; exact hlk W0 _ g.below
          have hct := cont_any w2.heap.size W0 st X4.drew k1.drew k2.drew k3.drew k4.drew
          rw [HQ.out] at hct
          unfold sV at hct c0
          rw [HB0.out] at c0
          simp only [Nat.add_zero] at c0
          clear p1 p2 p3 p4 z1 z2 z3 z4 hlk fB
          refine wp_region_ords [0, 1, 2, 3, 4, 5, 6, 7, 8, 9, 10, 11] [] [12, 13, 14] (by kernel_rfl) (by kernel_rfl) (fun d _ _ _ _ h => by cases d <;> exact h) ?_
          simp only [List.map_cons, List.map_nil, List.getD_cons_zero, List.getD_cons_succ]
          repeat (go_big_quiet_step (fail))
          refine wpQuiet_nil ?_
          refine wpMid_nil ?_
          go_upto_region 7 with (go_at_call 116; refine hct.mono ?_; rintro e w5 ⟨rfl, hb5⟩; have hB5 := (hB4.drew).below hb5; have f5 := hB5.facts; have c5 : w5.cell? ⟨w.heap.size, 0, none⟩ = some (.string B0) := (hb5.cell (p := ⟨w.heap.size, 0, none⟩) hlt4).trans c0)
          have hbw5 : Below w.heap.size w w5 := (hbw.drew).trans (hb5.mono hbw.size)
          have hr6 := (hr4.below (bl_then hb5 (bl_drew bl_refl))).chgN (Chg.refl.setIn (S := [Br]) (p := ⟨Br, 5, none⟩) (by simp) (.string B0)) (fun b off e => by
            obtain ⟨rfl, _⟩ : w.heap.size = b ∧ 0 = off := by simpa using e
            have := hBr.lt
            simp
            omega)
          have hR6 := (hr.below hbw5).state (some p) (.inr rfl) W0 hw0l HCC
          have hbz6 : Wrt base Br w (w5.setCell ⟨Br, 5, none⟩ (.string B0)) := (Wrt.of_below hbw5 hzb).set hB5 5 _
          unfold sV at hR6
          rw [HB0.out] at hR6
          obtain ⟨w6, hw6⟩ : ∃ X, w5.setCell ⟨Br, 5, none⟩ (.string B0) = X := ⟨_, rfl⟩
          rw [hw6] at hr6 hR6 hbz6 ⊢
          obtain ⟨b6, o6, hbe6, hlt6, c6⟩ := hr6.str hW0
          obtain ⟨rfl, rfl⟩ : w.heap.size = b6 ∧ 0 = o6 := by simpa using hbe6
          unfold sV at c6
          rw [HB0.out] at c6
          simp only [Nat.add_zero] at c6
          have hL6 := hL _ hbz6
          clear hw6 c5 f5 hB5 hb5 hbw5 c0 hlt4 hr4 fB4 hB4 hlkg hct k1 k2 k3 k4 hb4 hbw
          go_wp2_with (go_at_call 118; refine (finish_any base Br n Ws _ c2 l p W0 w6 hR6 hn).mono ?_; rintro e w7 ⟨rfl, hb7, hR7⟩)
          go_ret
          refine ⟨by rw [HE3.out.1]; rfl, hbz6.trans hb7, fun h => ?_⟩
          rw [HE3.out.2]
          exact hR7 (HE3.out.1 ▸ h)
      · have hp : W0 = wPan := by simpa using HTP.out
        have HE3 : Hid (E = begE Ws l ∧ N = (l, some (begP Ws))) := by
          constructor
          · rw [HEq.out, if_pos hp]
          · rw [HNq.out, if_pos hp]
        have HCC : ∀ p', (none : Option Pan) = some p' → W0 = wPan ∨ W0 = wLeft → p'.2.2.2 = [] := fun p' e => by cases e
        clear HEq HNq HE HN hmem hcon hp
        go_enter Tryz.func77, Tryz.ntmps77
        go_upto_region 4 with (first | (go_at_call 114; refine (hc1 _).mono ?_; rintro e w1 ⟨rfl, hw1⟩; replace hw1 := hw1.symm; subst hw1) | (go_at_call 115; refine (hc2 _ (hL _ Wrt.refl)).mono ?_; rintro e w2 ⟨c2, rfl, hr2, hk1, hk2, hb2⟩; obtain ⟨X1, X2, X3, X4, p1, z1, p2, z2, p3, z3, p4, z4, hb4, hlk, k1, k2, k3, k4⟩ := hf w2; simp only [sV, pairA, tripA, wPan, wLeft, wRight, wEnd] at p1 p2 p3 p4))
        have hbw : Below w.heap.size w X4 := hb4.mono hb2.size |> hb2.trans
        have hr4 := hr2.below hb4
        obtain ⟨bw, ow, hbe, hlt4, c0⟩ := hr4.str hW0
        obtain ⟨rfl, rfl⟩ : w.heap.size = bw ∧ 0 = ow := by simpa using hbe
        have hB4 := hBr.below hbw
        have fB4 := hB4.facts
        have hlkg : ∀ g : Bel X4.heap.size X4, (Instr.lookup 182 (.map (some w2.heap.size)) (.string B0) false).run Tryz.prog g.val = .ok (slV (folV w2.heap.size W0)) g.val := fun g => by rw [← HB0.out]; exact hlk W0 _ g.below
        have hct := cont_any w2.heap.size W0 st X4.drew k1.drew k2.drew k3.drew k4.drew
        rw [HQ.out] at hct
        unfold sV at hct c0
        rw [HB0.out] at c0
        simp only [Nat.add_zero] at c0
        clear p1 p2 p3 p4 z1 z2 z3 z4 hlk fB
        refine wp_region_ords [0, 1, 2, 3, 4, 5, 6, 7, 8, 9, 10, 11] [] [12, 13, 14] (by kernel_rfl) (by kernel_rfl) (fun d _ _ _ _ h => by cases d <;> exact h) ?_
        simp only [List.map_cons, List.map_nil, List.getD_cons_zero, List.getD_cons_succ]
        repeat (go_big_quiet_step (fail))
        refine wpQuiet_nil ?_
        refine wpMid_nil ?_
        go_upto_region 7 with (go_at_call 116; refine hct.mono ?_; rintro e w5 ⟨rfl, hb5⟩; have hB5 := (hB4.drew).below hb5; have f5 := hB5.facts; have c5 : w5.cell? ⟨w.heap.size, 0, none⟩ = some (.string B0) := (hb5.cell (p := ⟨w.heap.size, 0, none⟩) hlt4).trans c0)
        have hbw5 : Below w.heap.size w w5 := (hbw.drew).trans (hb5.mono hbw.size)
        have hr6 := (hr4.below (bl_then hb5 (bl_drew bl_refl))).chgN (Chg.refl.setIn (S := [Br]) (p := ⟨Br, 5, none⟩) (by simp) (.string B0)) (fun b off e => by
          obtain ⟨rfl, _⟩ : w.heap.size = b ∧ 0 = off := by simpa using e
          have := hBr.lt
          simp
          omega)
        have hR6 := (hr.below hbw5).state none (.inl rfl) W0 hw0l HCC
        have hbz6 : Wrt base Br w (w5.setCell ⟨Br, 5, none⟩ (.string B0)) := (Wrt.of_below hbw5 hzb).set hB5 5 _
        unfold sV at hR6
        rw [HB0.out] at hR6
        obtain ⟨w6, hw6⟩ : ∃ X, w5.setCell ⟨Br, 5, none⟩ (.string B0) = X := ⟨_, rfl⟩
        rw [hw6] at hr6 hR6 hbz6 ⊢
        obtain ⟨b6, o6, hbe6, hlt6, c6⟩ := hr6.str hW0
        obtain ⟨rfl, rfl⟩ : w.heap.size = b6 ∧ 0 = o6 := by simpa using hbe6
        unfold sV at c6
        rw [HB0.out] at c6
        simp only [Nat.add_zero] at c6
        have hL6 := hL _ hbz6
        clear hw6 c5 f5 hB5 hb5 hbw5 c0 hlt4 hr4 fB4 hB4 hlkg hct k1 k2 k3 k4 hb4 hbw
        go_wp2_with (go_at_call 117; refine (begin_any base Br n Ws _ c2 l none W0 w6 hL6 hR6 hr6 (by omega) hws hn).mono ?_; rintro e w7 ⟨rfl, hb7, hR7⟩)
        go_ret
        refine ⟨by rw [HE3.out.1]; rfl, hbz6.trans hb7, fun h => ?_⟩
        rw [HE3.out.2]
        exact hR7 (HE3.out.1 ▸ h)
end Go.Proofs.YtmjfkgbbhplhcaaGreatDoor

/- Parse of panels, begun: plain, the start, a text that is too long. Conditions: none. -/
namespace Go.Proofs.YtmjfkgbbhplhcaaGreatDoor
open Go.RowKit Go.ChangeMaps
set_option maxHeartbeats 4000000
set_option maxRecDepth 100000

attribute [local go_sem] Oper.semAt_some
/-! # Parse -/
/-- what Parse answers behind some lines: panels, a line's number, an error -/
def parP : List Str → List Pan → Option Pan → Str → Nat → List Pan × Int × Int
  | [], l, _, st, k => if st ≠ [] ∧ st ≠ wEnd then ([], (k : Int), 28) else (l, 0, 0)
  | x :: r, l, o, st, k => if readE x l o st = 0 then parP r (readN x l o).1 (readN x l o).2 ((readW x).getD 0 []) (k + 1) else ([], (k : Int), readE x l o st)
def parR (s : Str) : List Pan × Int × Int := if 16384 < s.length then ([], 0, 26) else parP (linesL s) [] none [] 0
/-- behind a line that is taken a panel is open where the state says so -/
theorem read_con {x : Str} {l : List Pan} {o : Option Pan} {st : Str} (hcon : st = wPan ∨ st = wLeft ∨ st = wRight → o ≠ none) (h : readE x l o st = 0) :
    (readW x).getD 0 [] = wPan ∨ (readW x).getD 0 [] = wLeft ∨ (readW x).getD 0 [] = wRight → (readN x l o).2 ≠ none := by
  intro hw
  unfold readN rdN
  by_cases h1 : (readW x).getD 0 [] = wPan
  · rw [if_pos h1]; simp
  · rw [if_neg h1]
    have h2 : (readW x).getD 0 [] ≠ wEnd := by
      rcases hw with h | h | h <;> rw [h] <;> decide
    unfold readE rdE at h
    split at h
    · exact absurd h (by decide)
    · cases o with
      | none => simp at h
      | some p => simp only [Option.elim, if_neg h2]; simp
/-- the reader at its start -/
theorem RdrAt.start {base Br : Nat} {W : World} (h : Blk W Br 133 #[.slice none 0 0, .string ⟨#[]⟩, .int .i64 0, .slice none 0 0, .slice none 0 0, .string ⟨#[]⟩]) (hb : base ≤ W.heap.size) : RdrAt base Br 0 W [] none [] :=
  ⟨[], .slice none 0 0, ([], 0, (none, 0, 0), (none, 0, 0)), W, h, Own.nil_, trivial, Kpt.refl, hb, trivial, Nat.le_refl _, by omega, (fun p e => by cases e), by simp⟩
/-- what Parse hands back: panels of the call's own, a line's number, an error -/
def RPP (w : World) (r : List Pan × Int × Int) (e : Ending) (w' : World) : Prop :=
  ∃ v, e = .returned (.tuple #[v, .int .i64 r.2.1, .int .i64 r.2.2]) ∧ SlP w' v r.1 ∧ Below w.heap.size w w'
theorem parse_long (s : Str) (w : World) (hs : 16384 < s.length) : Calls Tryz.prog 33 #[sV s] w (RPP w (parR s)) := by
  have HP : Hid (parR s = ([], 0, 26)) := by unfold Hid parR; rw [if_pos hs]
  have t1 : (16384 < (s.length : Int)) = True := eq_true (by omega)
  clear hs
  go_enter Tryz.func33, Tryz.ntmps33
  simp only [show sV s = Value.string { data := s.toArray } from rfl]
  go_wp2
  apply wp_scope_straight
  go_wp2
  rw [Exit.noGoto_ret]
  go_ret3
  exact ⟨_, by rw [HP.out]; rfl, by rw [HP.out]; exact ⟨[], ⟨none, 0, rfl, by simp, by simp [maxLen], fun i x hx => by simp at hx⟩, trivial⟩, by (repeat (first | exact bl_refl | assumption | (apply bl_then; assumption) | refine bl_alloc ?_ _ | refine bl_drew ?_ | refine bl_drewN ?_ _))⟩
/-! ## a scope and a label within a fence -/
section
variable {P : Program} {F : Fence} {n : Nat} {b : Frame} {a : Act} {k : List Item} {cs : List Frame} {w : World} {Q : Exit → Act → World → Prop}
theorem stepR_scope {c : Code} : step P (lone (b.atR a (.code (.scope c) :: k)) cs w) = .next (lone (b.atR a (.code c :: .inScope c :: k)) cs w) :=
  step_lone_go (by simp [stepG, stepG.exec, Frame.atR])
theorem stepR_inScope {c : Code} : step P (lone (b.atR a (.inScope c :: k)) cs w) = .next (lone (b.atR a k) cs w) :=
  step_lone_go (by simp [stepG, stepG.exec, Frame.atR])
theorem wpIn_scope_straight {c : Code} (h : c.wpIn F n P (Exit.noGoto Q) a w) : (Code.scope c).wpIn F n P Q a w := by
  intro b k cs hro hb hr
  have h0 : (lone (b.atR a (.code (.scope c) :: k)) cs w).fenced P F := fenced_calm hb hr rfl
  obtain ⟨e, a₁, w₁, hq, harr⟩ := h b (.inScope c :: k) cs hro hb hr
  cases e with
  | normal => exact ⟨.normal, a₁, w₁, hq, .head h0 stepR_scope (StepsIn.trans harr (.one (fenced_calm hb hr rfl) stepR_inScope))⟩
  | exit id =>
    have hx : exitTo id (.inScope c :: k) = exitTo id k := by simp [exitTo]
    exact ⟨.exit id, a₁, w₁, hq, fun k' hk => .head h0 stepR_scope (harr.1 k' (by rw [hx]; exact hk)),
      fun hr' hk => let ⟨k₁, h1, h2⟩ := harr.2 hr' (by rw [hx]; exact hk); ⟨k₁, h1, .head h0 stepR_scope h2⟩⟩
  | goto l => exact hq.elim
  | ret => exact ⟨_, a₁, w₁, hq, .of_steps (.one h0 stepR_scope) harr⟩
  | panic ch => exact ⟨_, a₁, w₁, hq, .of_steps (.one h0 stepR_scope) harr⟩
  | outgrown => exact ⟨_, a₁, w₁, hq, .of_steps (.one h0 stepR_scope) harr⟩
end
end Go.Proofs.YtmjfkgbbhplhcaaGreatDoor

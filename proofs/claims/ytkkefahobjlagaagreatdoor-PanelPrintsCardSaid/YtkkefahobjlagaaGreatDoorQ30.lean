/- The reader of panels: edge, walked. Conditions: the variables are laid. -/
import Derived.Test.YtkkefahobjlagaaGreatDoorQ29
namespace Go.Proofs.YtkkefahobjlagaaGreatDoor
open Go.RowKit Go.ChangeMaps
set_option maxHeartbeats 4000000
set_option maxRecDepth 100000
attribute [local go_sem] Oper.semAt_some
theorem bl_tgrown {B : Nat} {w A C : World} {row : Option Nat} (h : Below B w A) (g : A.grownBy C row) (hB : B ≤ A.heap.size) (hr : ∀ k, row = some k → B ≤ k) : Below B w C :=
 ⟨g.os.trans h.os, g.tape.trans h.tape, g.output.trans h.output, Nat.le_trans h.size g.size, fun i hi => (g.block i (by omega) (fun e => by have := hr i e.symm; omega)).trans (h.block i hi)⟩
def wOut : Str := [111, 117, 116]
def wIn : Str := [105, 110]
def edgW (W : List Str) : Edg := (W.getD 1 [], (decR (W.getD 2 [])).1, W.getD 3 [] == wOut)
def edgeE (W : List Str) : Int := if W.length ≠ 4 ∨ W.getD 1 [] = [] ∨ (W.getD 3 [] ≠ wOut ∧ W.getD 3 [] ≠ wIn) ∨ (decR (W.getD 2 [])).2 = false then 25 else edgE (edgW W)
def edgeP (W : List Str) (p : Pan) : Pan := if W.getD 0 [] = wLeft then (p.1, p.2.1, p.2.2.1 ++ [edgW W], p.2.2.2) else (p.1, p.2.1, p.2.2.1, p.2.2.2 ++ [edgW W])
theorem edge_bad (base Br : Nat) (W : List Str) (A : Option Addr) (c : Nat) (w : World) (hW : Rd strc 1 w A W) (hlen : W.length ≤ 100000) (hbad : W.length ≠ 4 ∨ W.getD 1 [] = [] ∨ (W.getD 3 [] ≠ wOut ∧ W.getD 3 [] ≠ wIn)) :
    Calls Tryz.prog 161 #[.pointer (some ⟨Br, 0, none⟩), .slice A W.length c] w (fun e w' => e = .returned (.int .i64 25) ∧ Below base w w') := by
  by_cases h4 : W.length = 4
  · obtain ⟨a0, a1, a2, a3, rfl⟩ : ∃ a b c d, W = [a, b, c, d] := by
      match W, h4 with
      | [a, b, c, d], _ => exact ⟨a, b, c, d, rfl⟩
    obtain ⟨b, off, rfl, hb, e1⟩ := hW.str (k := 1) (s := a1) rfl
    obtain ⟨b2, off2, hE, _, e3⟩ := hW.str (k := 3) (s := a3) rfl
    have hE2 : b2 = b ∧ off2 = off := by simpa using hE.symm
    rw [hE2.1, hE2.2] at e3
    clear hE2 hE
    have hbad2 : a1 = [] ∨ (a3 ≠ wOut ∧ a3 ≠ wIn) := by simpa using hbad
    by_cases h1 : a1 = []
    · subst h1
      unfold sV at e1 e3
      clear hbad hbad2
      go_enter Tryz.func161, Tryz.ntmps161
      go_wp2
      go_ret
      exact ⟨rfl, Below.refl _ _⟩
    · have h3 := hbad2.resolve_left h1
      unfold sV at e1 e3
      obtain ⟨B1, hB1⟩ : ∃ B : ByteArray, ({ data := a1.toArray } : ByteArray) = B := ⟨_, rfl⟩
      have hBl : B1.toList = a1 := by rw [← hB1]; simp [ByteArray.toList_eq]
      have g1 : (B1.toList == []) = false := by rw [hBl]; cases a1 <;> simp_all
      have g2 : B1.toList.isEmpty = false := by rw [hBl]; cases a1 <;> simp_all
      have g3 : (B1.toList = []) = False := by rw [hBl]; simpa using h1
      rw [hB1] at e1
      obtain ⟨B3, hB3⟩ : ∃ B : ByteArray, ({ data := a3.toArray } : ByteArray) = B := ⟨_, rfl⟩
      have hBl3 : B3.toList = a3 := by rw [← hB3]; simp [ByteArray.toList_eq]
      have g4 : (B3.toList == [111, 117, 116]) = false := by rw [hBl3]; simpa [wOut] using h3.1
      have g5 : (B3.toList == [105, 110]) = false := by rw [hBl3]; simpa [wIn] using h3.2
      rw [hB3] at e3
      clear hbad hbad2 h1 h3 hBl hBl3 hB1 hB3
      go_enter Tryz.func161, Tryz.ntmps161
      go_wp2
      go_ret
      exact ⟨rfl, Below.refl _ _⟩
  · have t3 : ((W.length : Int) != 4) = true := by simp; omega
    have t4 : ((W.length : Int) == 4) = false := by simp; omega
    clear h4 hbad
    go_enter Tryz.func161, Tryz.ntmps161
    go_wp2
    go_ret
    exact ⟨rfl, Below.refl _ _⟩
theorem edge_num (base Br n : Nat) (W : List Str) (A : Option Addr) (c : Nat) (l : List Pan) (p : Pan) (st : Str) (w : World) (hL : Lay w) (hr : RdrAt base Br n w l (some p) st) (hW : Rd strc 1 w A W) (hs : ∀ s ∈ W, s.length ≤ 100000) (hn : n + 1 ≤ 20000) (hst : W[0]? = some st) (hnp : st ≠ wPan)
  (h4 : W.length = 4) (h1 : W.getD 1 [] ≠ []) (h3 : W.getD 3 [] = wOut ∨ W.getD 3 [] = wIn) :
  Calls Tryz.prog 161 #[.pointer (some ⟨Br, 0, none⟩), .slice A W.length c] w (fun e w' => e = .returned (.int .i64 (edgeE W)) ∧ Wrt base Br w w' ∧ (edgeE W = 0 → RdrAt base Br (n + 1) w' l (some (edgeP W p)) st)) := by
 obtain ⟨a0, a1, a2, a3, rfl⟩ : ∃ a b c d, W = [a, b, c, d] := by
  match W, h4 with
  | [a, b, c, d], _ => exact ⟨a, b, c, d, rfl⟩
 obtain rfl : a0 = st := by simpa using hst
 have HNP : Hid (a0 ≠ wPan) := hnp
 clear hnp
 obtain ⟨b, off, rfl, hb, e1⟩ := hW.str (k := 1) (s := a1) rfl
 obtain ⟨b3, off3, hE, _, e3⟩ := hW.str (k := 3) (s := a3) rfl
 have hE2 : b3 = b ∧ off3 = off := by simpa using hE.symm
 rw [hE2.1, hE2.2] at e3
 clear hE2 hE
 obtain ⟨b3, off3, hE, _, e2⟩ := hW.str (k := 2) (s := a2) rfl
 have hE2 : b3 = b ∧ off3 = off := by simpa using hE.symm
 rw [hE2.1, hE2.2] at e2
 clear hE2 hE
 obtain ⟨b3, off3, hE, _, e0⟩ := hW.str (k := 0) (s := a0) rfl
 have hE2 : b3 = b ∧ off3 = off := by simpa using hE.symm
 rw [hE2.1, hE2.2, Nat.add_zero] at e0
 clear hE2 hE
 simp only [List.getD_cons_succ, List.getD_cons_zero] at h1 h3
 have hd := dec_any a2 (by have := hs a2 (by simp); omega) w hL
 have HE : Hid (edgeE [a0, a1, a2, a3] = if (decR a2).2 = false then 25 else edgE (a1, (decR a2).1, a3 == wOut)) := by
  unfold Hid edgeE edgW
  by_cases hk : (decR a2).2 = false
  ·rw [if_pos hk, if_pos (.inr (.inr (.inr hk)))]
  ·rw [if_neg hk, if_neg]
   ·rfl
   ·rintro (h | h | h | h)
    ·exact h rfl
    ·exact h1 h
    ·rcases h3 with h3 | h3
     ·exact h.1 h3
     ·exact h.2 h3
    ·exact hk h
 have HP : Hid (edgeP [a0, a1, a2, a3] p = if a0 = wLeft then (p.1, p.2.1, p.2.2.1 ++ [(a1, (decR a2).1, a3 == wOut)], p.2.2.2) else (p.1, p.2.1, p.2.2.1, p.2.2.2 ++ [(a1, (decR a2).1, a3 == wOut)])) := rfl
 obtain ⟨⟨D, k⟩, hD⟩ : ∃ z, decR a2 = z := ⟨_, rfl⟩
 rw [hD] at hd HE HP
 simp only at hd HE HP
 obtain ⟨B1, hB1⟩ : ∃ B : ByteArray, ({ data := a1.toArray } : ByteArray) = B := ⟨_, rfl⟩
 have hBl : B1.toList = a1 := by rw [← hB1]; simp [ByteArray.toList_eq]
 have g1 : (B1.toList == []) = false := by rw [hBl]; cases a1 <;> simp_all
 have g2 : B1.toList.isEmpty = false := by rw [hBl]; cases a1 <;> simp_all
 have g3 : (B1.toList = []) = False := by rw [hBl]; simpa using h1
 obtain ⟨B3, hB3⟩ : ∃ B : ByteArray, ({ data := a3.toArray } : ByteArray) = B := ⟨_, rfl⟩
 have hBl3 : B3.toList = a3 := by rw [← hB3]; simp [ByteArray.toList_eq]
 obtain ⟨q, hq⟩ : ∃ q, (a3 == wOut) = q := ⟨_, rfl⟩
 rw [hq] at HE HP
 have g4 : (B3.toList == [111, 117, 116]) = q := by rw [hBl3, ← hq]; rfl
 have g5 : q = false → (B3.toList == [105, 110]) = true := fun e => by
  rw [hBl3]
  rcases h3 with h3 | h3
  ·rw [h3] at hq; rw [e] at hq; exact absurd hq (by decide)
  ·rw [h3]; rfl
 obtain ⟨B0, hB0⟩ : ∃ B : ByteArray, ({ data := a0.toArray } : ByteArray) = B := ⟨_, rfl⟩
 have hBl0 : B0.toList = a0 := by rw [← hB0]; simp [ByteArray.toList_eq]
 obtain ⟨t, ht⟩ : ∃ t, (a0 == wLeft) = t := ⟨_, rfl⟩
 have g6 : (B0.toList == [108, 101, 102, 116]) = t := by rw [hBl0, ← ht]; rfl
 have HT : Hid ((a0 = wLeft) ↔ t = true) := by unfold Hid; rw [← ht]; simp
 have HB1 := Lib.hid hB1
 have HB0 := Lib.hid hB0
 unfold sV at e0 e1 e2 e3 hd
 rw [hB1] at e1
 rw [hB3] at e3
 rw [hB0] at e0
 obtain ⟨E, hEE⟩ : ∃ E, edgeE [a0, a1, a2, a3] = E := ⟨_, rfl⟩
 obtain ⟨PP, hPP⟩ : ∃ E, edgeP [a0, a1, a2, a3] p = E := ⟨_, rfl⟩
 rw [hEE] at HE ⊢
 rw [hPP] at HP ⊢
 have hce := fun W => checkEdge_any (a1, D, q) W
 obtain ⟨xs, vP, ⟨nm, wd, ⟨La, Ln, Lc⟩, ⟨Ra, Rn, Rc⟩⟩, wb, hBr, hP, hxs, hC, hbz, ⟨nr, n1, n2, m1, m2, oL, oLt, oR, oRn⟩, h5, h6, h7, h8⟩ := hr
 obtain ⟨h71, h72, h73, h74⟩ := h7 p rfl
 simp only [slV] at hBr oL oLt oR
 simp only at m1 m2 oRn
 clear hD hEE hPP hq ht hB1 hB3 hB0 hBl hBl3 hBl0 h1 h3 hs hst hL h4
 have hcut : ∀ (k' : Bool), k = k' → True := fun _ _ => trivial
 clear hcut
 cases k
 ·have HE2 : Hid (E = 25) := by unfold Hid; rw [HE.out, if_pos rfl]
  clear HE
  cases q
  ·have g7 := g5 rfl
   clear g5
   go_enter Tryz.func161, Tryz.ntmps161
   go_wp2_with fail
   refine hd.mono ?_
   rintro e w3 ⟨rfl, hb3⟩
   go_wp2
   go_ret
   exact ⟨by rw [HE2.out]; rfl, Wrt.of_below hb3 (by have := hC.size; omega), fun h => by rw [HE2.out] at h; exact absurd h (by decide)⟩
  ·clear g5
   go_enter Tryz.func161, Tryz.ntmps161
   go_wp2_with fail
   refine hd.mono ?_
   rintro e w3 ⟨rfl, hb3⟩
   go_wp2
   go_ret
   exact ⟨by rw [HE2.out]; rfl, Wrt.of_below hb3 (by have := hC.size; omega), fun h => by rw [HE2.out] at h; exact absurd h (by decide)⟩
 ·have HE2 : Hid (E = edgE (a1, D, q)) := by unfold Hid; rw [HE.out, if_neg (by simp)]
  rw [← HE2.out] at hce
  simp only [sV] at hce
  rw [HB1.out] at hce
  cases t
  ·cases q
   ·have g7 := g5 rfl
    clear g5
    go_enter Tryz.func161, Tryz.ntmps161
    go_wp2_with fail
    refine hd.mono ?_
    rintro e w3 ⟨rfl, hb3⟩
    have x0 : w3.cell? ⟨b, off, none⟩ = some (.string B0) := (hb3.cell (p := ⟨b, off, none⟩) hb).trans e0
    have x1 : w3.cell? ⟨b, off + 1, none⟩ = some (.string B1) := (hb3.cell (p := ⟨b, off + 1, none⟩) hb).trans e1
    have x3 : w3.cell? ⟨b, off + 3, none⟩ = some (.string B3) := (hb3.cell (p := ⟨b, off + 3, none⟩) hb).trans e3
    have hbl3 : b < w3.heap.size := Nat.lt_of_lt_of_le hb hb3.size
    go_upto_region 6 with fail
    refine wp_region_ords [0, 1, 2, 3, 4, 5, 6, 7, 8] [(9, false)] [10] (by kernel_rfl) (by kernel_rfl) (fun d _ _ _ _ h => by cases d <;> exact h) ?_
    simp only [List.map_cons, List.map_nil, List.getD_cons_zero, List.getD_cons_succ]
    repeat (go_big_quiet_step (fail))
    refine wpQuiet_nil ?_
    refine wpMid_run rfl (fun K hK => ?_)
    go_simp
    refine hK _ _ (by (repeat first|exact J0|assumption|(apply J1;assumption)|apply J2|apply J3|apply J4)) ?_
    clear hK K
    refine wpMid_nil ?_
    have hX := Blk.new w3.drew 107 #[.string ⟨#[]⟩, .int .i64 0, .bool false]
    go_upto_region 7 with (refine wpList_store_blk hX rfl _ _ _ rfl rfl rfl (by rfl) (by kernel_rfl) (by kernel_rfl) ?_; intro w4 hX4 hc4)
    have hb34 : Below w3.heap.size w3 w4 := chg_bl (bl_alloc (bl_drew bl_refl) _) hc4 (Nat.le_refl _)
    have hb4 := bl_then hb34 hb3
    have y0 : w4.cell? ⟨b, off, none⟩ = some (.string B0) := (hb34.cell (p := ⟨b, off, none⟩) (by have := hb3.size; omega)).trans x0
    have hB4 := hBr.below hb4
    have hP4 := hP.below hb4
    have hC4 := hC.then_ hb4
    have oL4 := oL.below hb4
    have oR4 := oR.below hb4
    have hz4 := hb4.size
    have hz3 : w3.drew.heap.size < w4.heap.size := hX4.lt
    have hzC := hC.size
    have hlo := fun k e => (oR.lt k e).2
    have hz30 := hb3.size
    clear x0 x1 x3 hb3 hb34 hc4 hX e0 e1 e2 e3 hBr hP hC oL oR hd
    go_upto_region 9 with fail
    obtain ⟨g, hg⟩ : ∃ g, w3.drew.heap.size = g := ⟨_, rfl⟩
    have hg0 : w3.heap.size = g := hg
    rw [hg] at hX4 hz3
    rw [hg0]
    have hgB : g ≠ Br := by rintro rfl; unfold Blk at hX4 hB4; rw [hX4] at hB4; simp at hB4
    have hXa := (hX4.drew).alloc (.cells #[.string B1, .int .i64 D, .bool false] 107)
    have hBa := (hB4.drew).alloc (.cells #[.string B1, .int .i64 D, .bool false] 107)
    have hPa := (hP4.drew).alloc (.cells #[.string B1, .int .i64 D, .bool false] 107)
    have oLa := (oL4.drew).alloc (.cells #[.string B1, .int .i64 D, .bool false] 107)
    have oRa := (oR4.drew).alloc (.cells #[.string B1, .int .i64 D, .bool false] 107)
    have hba : Below w4.heap.size w4 (w4.drew.alloc (.cells #[.string B1, .int .i64 D, .bool false] 107)) := bl_alloc (bl_drew bl_refl) _
    have hCa := hC4.then_ hba
    have hua : Sl ec 3 (w4.drew.alloc (.cells #[.string B1, .int .i64 D, .bool false] 107)) (.slice (some ⟨w4.heap.size, 0, none⟩) 1 1) [(a1, D, false)] := Sl.oneG w4.drew _ (a1, D, false) _ (by rw [← HB1.out]; rfl)
    have hza := hba.size
    obtain ⟨P0, hP0⟩ : ∃ P0 : World → Prop, P0 = fun u => u.cell? ⟨Br, 4, none⟩ = some (.slice Ra Rn Rc) ∧ u.cell? ⟨g, 0, none⟩ = some (.string B1) ∧ u.cell? ⟨g, 1, none⟩ = some (.int .i64 D) ∧ u.cell? ⟨g, 2, none⟩ = some (.bool false) := ⟨_, rfl⟩
    have hPm : ∀ u, Blk u Br 172 #[vP, .string ⟨nm.toArray⟩, .int .i64 wd, .slice La Ln Lc, .slice Ra Rn Rc, .string ⟨a0.toArray⟩] → Blk u g 107 #[.string B1, .int .i64 D, .bool false] → P0 u := fun u h1 h2 => by
     rw [hP0]
     exact ⟨by rw [h1.cell]; rfl, by rw [h2.cell]; rfl, by rw [h2.cell]; rfl, by rw [h2.cell]; rfl⟩
    have hPi : ∀ u, P0 u → u.cell? ⟨Br, 4, none⟩ = some (.slice Ra Rn Rc) ∧ u.cell? ⟨g, 0, none⟩ = some (.string B1) ∧ u.cell? ⟨g, 1, none⟩ = some (.int .i64 D) ∧ u.cell? ⟨g, 2, none⟩ = some (.bool false) := fun u h => by rw [hP0] at h; exact h
    have hp0 : P0 w4.drew := hPm _ hB4.drew hX4.drew
    have hp1 := hPm _ hBa hXa
    have hcb3 : ∀ u : BelM base w4 P0, u.val.cell? ⟨Br, 4, none⟩ = some (.slice Ra Rn Rc) := fun u => (hPi _ u.has).1
    have hcg0 : ∀ u : BelM base w4 P0, u.val.cell? ⟨g, 0, none⟩ = some (.string B1) := fun u => (hPi _ u.has).2.1
    have hcg1 : ∀ u : BelM base w4 P0, u.val.cell? ⟨g, 1, none⟩ = some (.int .i64 D) := fun u => (hPi _ u.has).2.2.1
    have hcg2 : ∀ u : BelM base w4 P0, u.val.cell? ⟨g, 2, none⟩ = some (.bool false) := fun u => (hPi _ u.has).2.2.2
    have hst0 : Below base w4 (w4.drew.alloc (.cells #[.string B1, .int .i64 D, .bool false] 107)) := hba.mono (by omega)
    haveI hne' : Nonempty (BelM base w4 P0) := BelM.none_empty hst0 hp1
    clear hP0 hPi
    refine wp_region_ordm (base) (P0) [0, 1, 2, 3, 4, 5, 6] [(7, false), (8, false)] [9, 10, 11, 12] (by kernel_rfl) (by kernel_rfl) (fun d _ _ _ _ h => by cases d <;> exact h) (hp0) ?_
    simp only [List.map_cons, List.map_nil, List.getD_cons_zero, List.getD_cons_succ]
    repeat (go_big_quiet_step (fail))
    refine wpQuiet_nil ?_
    refine wpMid_runm rfl (fun K hK => ?_)
    go_simp
    refine hK _ _ (hst0) (hp1) ?_
    clear hK K
    clear hcb3 hcg0 hcg1 hcg2 hne'
    refine wpMid_runm rfl (fun K hK => ?_)
    refine op_app (l := p.2.2.2) (r := [(a1, D, false)]) edge_elem ec_len ec_one _ _ rfl nr _ _ rfl rfl oRa hua (by simp [maxLen]; omega) (by simp; omega) (Nat.le_trans (show nr ≤ w4.heap.size by omega) hza) ?_
    intro v6 w6 hown6 hgr6
    replace hgr6 : (w4.drew.alloc (.cells #[.string B1, .int .i64 D, .bool false] 107)).grownBy w6 _ := hgr6
    have hlt6 := oRa.lt
    obtain ⟨A6, c6, rfl⟩ := hown6.shape
    have hX6 := hXa.grown hgr6 (fun e => by have := hlo g e.symm; omega)
    have hB6 := hBa.grown hgr6 (oRa.ne_blk hBa (by decide))
    have hP6 := hPa.kept hgr6 (Own.ne_own hPa oRa (by decide))
    have hst6 : Below base w4 w6 := bl_tgrown hst0 hgr6 (by omega) (fun k e => by have := (hlt6 k e).1; omega)
    have hC6 := hCa.then_grown hgr6 (fun k e => by have := (hlt6 k e).1; omega)
    have oL6 := oLa.kept hgr6 (by
     cases h : (Value.slice La Ln Lc).ownBlock with
     | none => exact .inl rfl
     | some k => exact .inr (fun e => by have h1 := oLt k h; have h2 := (hlt6 k e.symm).1; omega))
    refine hK _ _ hst6 (hPm _ hB6 hX6) ?_
    have hwr6 : Wrt base Br w w6 := ((Wrt.of_below hb4 (by omega)).then_ hba (by omega)).grown oRa hgr6 (by omega) (by omega)
    clear hK K hp0 hp1 hPm
    refine wpMid_nil ?_
    have hlen6 : (p.2.2.2 ++ [(a1, D, false)]).length = p.2.2.2.length + 1 := by simp
    rw [hlen6] at hown6 ⊢
    have fB6 := hB6.facts
    have fX6 := hX6.facts
    have hB7 := hB6.set_ 4 (.slice A6 (p.2.2.2.length + 1) c6)
    have hX7 := hX6.far (p := ⟨Br, 4, none⟩) hgB (.slice A6 (p.2.2.2.length + 1) c6)
    have fX7 := hX7.facts
    have hC7 := hC6.setIn hB6 (by decide) 4 (.slice A6 (p.2.2.2.length + 1) c6)
    have hP7 := hP6.set (p := ⟨Br, 4, none⟩) (Ne.symm (hP6.ne_blk hB6 (by decide))) (.slice A6 (p.2.2.2.length + 1) c6)
    have own7 := hown6.set (p := ⟨Br, 4, none⟩) (Ne.symm (hown6.ne_blk hB6 (by decide))) (.slice A6 (p.2.2.2.length + 1) c6)
    have hst7 : Wrt base Br w (w6.setCell ⟨Br, 4, none⟩ (.slice A6 (p.2.2.2.length + 1) c6)) := hwr6.set hB6 4 _
    have hz6 := hst6.size
    have oL7 := oL6.set (p := ⟨Br, 4, none⟩) (Ne.symm (oL6.ne_blk hB6 (by decide))) (.slice A6 (p.2.2.2.length + 1) c6)
    go_wp2_with (go_at_call 169; refine (hce _).mono ?_; rintro e w8 ⟨rfl, hb8⟩)
    go_ret
    have hz8 := hb8.size
    have hz7 : (w6.setCell ⟨Br, 4, none⟩ (.slice A6 (p.2.2.2.length + 1) c6)).heap.size = w6.heap.size := by simp [World.setCell]
    refine ⟨rfl, hst7.then_ hb8 (by omega), fun _ => ⟨xs, vP, (nm, wd, (La, Ln, Lc), (A6, p.2.2.2.length + 1, c6)), wb, ?_, hP7.below hb8, hxs, hC7.then_ hb8, hbz, ?_, by omega, hn, ?_, h8⟩⟩
    ·have := hB7.below hb8
     simpa [sV, slV] using this
    ·have e1 := (HP.out.trans (if_neg (fun e => by have := HT.out.1 e; exact absurd this (by simp))))
     rw [e1]
     exact ⟨nr, n1, by omega, m1, m2, oL7.below hb8, oLt, own7.below hb8, fun e => by simp at e⟩
    ·rintro p' hp'
     cases hp'
     rw [HP.out.trans (if_neg (fun e => by have := HT.out.1 e; exact absurd this (by simp)))]
     refine ⟨h71, by simp only; omega, by simp; omega, fun e => ?_⟩
     rcases e with e | e
     ·exact absurd e HNP.out
     ·exact absurd (HT.out.1 e) (by simp)
   ·clear g5
    go_enter Tryz.func161, Tryz.ntmps161
    go_wp2_with fail
    refine hd.mono ?_
    rintro e w3 ⟨rfl, hb3⟩
    have x0 : w3.cell? ⟨b, off, none⟩ = some (.string B0) := (hb3.cell (p := ⟨b, off, none⟩) hb).trans e0
    have x1 : w3.cell? ⟨b, off + 1, none⟩ = some (.string B1) := (hb3.cell (p := ⟨b, off + 1, none⟩) hb).trans e1
    have x3 : w3.cell? ⟨b, off + 3, none⟩ = some (.string B3) := (hb3.cell (p := ⟨b, off + 3, none⟩) hb).trans e3
    have hbl3 : b < w3.heap.size := Nat.lt_of_lt_of_le hb hb3.size
    go_upto_region 6 with fail
    refine wp_region_ords [0, 1, 2, 3, 4, 5, 6, 7, 8] [(9, false)] [10] (by kernel_rfl) (by kernel_rfl) (fun d _ _ _ _ h => by cases d <;> exact h) ?_
    simp only [List.map_cons, List.map_nil, List.getD_cons_zero, List.getD_cons_succ]
    repeat (go_big_quiet_step (fail))
    refine wpQuiet_nil ?_
    refine wpMid_run rfl (fun K hK => ?_)
    go_simp
    refine hK _ _ (by (repeat first|exact J0|assumption|(apply J1;assumption)|apply J2|apply J3|apply J4)) ?_
    clear hK K
    refine wpMid_nil ?_
    have hX := Blk.new w3.drew 107 #[.string ⟨#[]⟩, .int .i64 0, .bool false]
    go_upto_region 7 with (refine wpList_store_blk hX rfl _ _ _ rfl rfl rfl (by rfl) (by kernel_rfl) (by kernel_rfl) ?_; intro w4 hX4 hc4)
    have hb34 : Below w3.heap.size w3 w4 := chg_bl (bl_alloc (bl_drew bl_refl) _) hc4 (Nat.le_refl _)
    have hb4 := bl_then hb34 hb3
    have y0 : w4.cell? ⟨b, off, none⟩ = some (.string B0) := (hb34.cell (p := ⟨b, off, none⟩) (by have := hb3.size; omega)).trans x0
    have hB4 := hBr.below hb4
    have hP4 := hP.below hb4
    have hC4 := hC.then_ hb4
    have oL4 := oL.below hb4
    have oR4 := oR.below hb4
    have hz4 := hb4.size
    have hz3 : w3.drew.heap.size < w4.heap.size := hX4.lt
    have hzC := hC.size
    have hlo := fun k e => (oR.lt k e).2
    have hz30 := hb3.size
    clear x0 x1 x3 hb3 hb34 hc4 hX e0 e1 e2 e3 hBr hP hC oL oR hd
    go_upto_region 9 with fail
    obtain ⟨g, hg⟩ : ∃ g, w3.drew.heap.size = g := ⟨_, rfl⟩
    have hg0 : w3.heap.size = g := hg
    rw [hg] at hX4 hz3
    rw [hg0]
    have hgB : g ≠ Br := by rintro rfl; unfold Blk at hX4 hB4; rw [hX4] at hB4; simp at hB4
    have hXa := (hX4.drew).alloc (.cells #[.string B1, .int .i64 D, .bool true] 107)
    have hBa := (hB4.drew).alloc (.cells #[.string B1, .int .i64 D, .bool true] 107)
    have hPa := (hP4.drew).alloc (.cells #[.string B1, .int .i64 D, .bool true] 107)
    have oLa := (oL4.drew).alloc (.cells #[.string B1, .int .i64 D, .bool true] 107)
    have oRa := (oR4.drew).alloc (.cells #[.string B1, .int .i64 D, .bool true] 107)
    have hba : Below w4.heap.size w4 (w4.drew.alloc (.cells #[.string B1, .int .i64 D, .bool true] 107)) := bl_alloc (bl_drew bl_refl) _
    have hCa := hC4.then_ hba
    have hua : Sl ec 3 (w4.drew.alloc (.cells #[.string B1, .int .i64 D, .bool true] 107)) (.slice (some ⟨w4.heap.size, 0, none⟩) 1 1) [(a1, D, true)] := Sl.oneG w4.drew _ (a1, D, true) _ (by rw [← HB1.out]; rfl)
    have hza := hba.size
    obtain ⟨P0, hP0⟩ : ∃ P0 : World → Prop, P0 = fun u => u.cell? ⟨Br, 4, none⟩ = some (.slice Ra Rn Rc) ∧ u.cell? ⟨g, 0, none⟩ = some (.string B1) ∧ u.cell? ⟨g, 1, none⟩ = some (.int .i64 D) ∧ u.cell? ⟨g, 2, none⟩ = some (.bool true) := ⟨_, rfl⟩
    have hPm : ∀ u, Blk u Br 172 #[vP, .string ⟨nm.toArray⟩, .int .i64 wd, .slice La Ln Lc, .slice Ra Rn Rc, .string ⟨a0.toArray⟩] → Blk u g 107 #[.string B1, .int .i64 D, .bool true] → P0 u := fun u h1 h2 => by
     rw [hP0]
     exact ⟨by rw [h1.cell]; rfl, by rw [h2.cell]; rfl, by rw [h2.cell]; rfl, by rw [h2.cell]; rfl⟩
    have hPi : ∀ u, P0 u → u.cell? ⟨Br, 4, none⟩ = some (.slice Ra Rn Rc) ∧ u.cell? ⟨g, 0, none⟩ = some (.string B1) ∧ u.cell? ⟨g, 1, none⟩ = some (.int .i64 D) ∧ u.cell? ⟨g, 2, none⟩ = some (.bool true) := fun u h => by rw [hP0] at h; exact h
    have hp0 : P0 w4.drew := hPm _ hB4.drew hX4.drew
    have hp1 := hPm _ hBa hXa
    have hcb3 : ∀ u : BelM base w4 P0, u.val.cell? ⟨Br, 4, none⟩ = some (.slice Ra Rn Rc) := fun u => (hPi _ u.has).1
    have hcg0 : ∀ u : BelM base w4 P0, u.val.cell? ⟨g, 0, none⟩ = some (.string B1) := fun u => (hPi _ u.has).2.1
    have hcg1 : ∀ u : BelM base w4 P0, u.val.cell? ⟨g, 1, none⟩ = some (.int .i64 D) := fun u => (hPi _ u.has).2.2.1
    have hcg2 : ∀ u : BelM base w4 P0, u.val.cell? ⟨g, 2, none⟩ = some (.bool true) := fun u => (hPi _ u.has).2.2.2
    have hst0 : Below base w4 (w4.drew.alloc (.cells #[.string B1, .int .i64 D, .bool true] 107)) := hba.mono (by omega)
    haveI hne' : Nonempty (BelM base w4 P0) := BelM.none_empty hst0 hp1
    clear hP0 hPi
    refine wp_region_ordm (base) (P0) [0, 1, 2, 3, 4, 5, 6] [(7, false), (8, false)] [9, 10, 11, 12] (by kernel_rfl) (by kernel_rfl) (fun d _ _ _ _ h => by cases d <;> exact h) (hp0) ?_
    simp only [List.map_cons, List.map_nil, List.getD_cons_zero, List.getD_cons_succ]
    repeat (go_big_quiet_step (fail))
    refine wpQuiet_nil ?_
    refine wpMid_runm rfl (fun K hK => ?_)
    go_simp
    refine hK _ _ (hst0) (hp1) ?_
    clear hK K
    clear hcb3 hcg0 hcg1 hcg2 hne'
    refine wpMid_runm rfl (fun K hK => ?_)
    refine op_app (l := p.2.2.2) (r := [(a1, D, true)]) edge_elem ec_len ec_one _ _ rfl nr _ _ rfl rfl oRa hua (by simp [maxLen]; omega) (by simp; omega) (Nat.le_trans (show nr ≤ w4.heap.size by omega) hza) ?_
    intro v6 w6 hown6 hgr6
    replace hgr6 : (w4.drew.alloc (.cells #[.string B1, .int .i64 D, .bool true] 107)).grownBy w6 _ := hgr6
    have hlt6 := oRa.lt
    obtain ⟨A6, c6, rfl⟩ := hown6.shape
    have hX6 := hXa.grown hgr6 (fun e => by have := hlo g e.symm; omega)
    have hB6 := hBa.grown hgr6 (oRa.ne_blk hBa (by decide))
    have hP6 := hPa.kept hgr6 (Own.ne_own hPa oRa (by decide))
    have hst6 : Below base w4 w6 := bl_tgrown hst0 hgr6 (by omega) (fun k e => by have := (hlt6 k e).1; omega)
    have hC6 := hCa.then_grown hgr6 (fun k e => by have := (hlt6 k e).1; omega)
    have oL6 := oLa.kept hgr6 (by
     cases h : (Value.slice La Ln Lc).ownBlock with
     | none => exact .inl rfl
     | some k => exact .inr (fun e => by have h1 := oLt k h; have h2 := (hlt6 k e.symm).1; omega))
    refine hK _ _ hst6 (hPm _ hB6 hX6) ?_
    have hwr6 : Wrt base Br w w6 := ((Wrt.of_below hb4 (by omega)).then_ hba (by omega)).grown oRa hgr6 (by omega) (by omega)
    clear hK K hp0 hp1 hPm
    refine wpMid_nil ?_
    have hlen6 : (p.2.2.2 ++ [(a1, D, true)]).length = p.2.2.2.length + 1 := by simp
    rw [hlen6] at hown6 ⊢
    have fB6 := hB6.facts
    have fX6 := hX6.facts
    have hB7 := hB6.set_ 4 (.slice A6 (p.2.2.2.length + 1) c6)
    have hX7 := hX6.far (p := ⟨Br, 4, none⟩) hgB (.slice A6 (p.2.2.2.length + 1) c6)
    have fX7 := hX7.facts
    have hC7 := hC6.setIn hB6 (by decide) 4 (.slice A6 (p.2.2.2.length + 1) c6)
    have hP7 := hP6.set (p := ⟨Br, 4, none⟩) (Ne.symm (hP6.ne_blk hB6 (by decide))) (.slice A6 (p.2.2.2.length + 1) c6)
    have own7 := hown6.set (p := ⟨Br, 4, none⟩) (Ne.symm (hown6.ne_blk hB6 (by decide))) (.slice A6 (p.2.2.2.length + 1) c6)
    have hst7 : Wrt base Br w (w6.setCell ⟨Br, 4, none⟩ (.slice A6 (p.2.2.2.length + 1) c6)) := hwr6.set hB6 4 _
    have hz6 := hst6.size
    have oL7 := oL6.set (p := ⟨Br, 4, none⟩) (Ne.symm (oL6.ne_blk hB6 (by decide))) (.slice A6 (p.2.2.2.length + 1) c6)
    go_wp2_with (go_at_call 169; refine (hce _).mono ?_; rintro e w8 ⟨rfl, hb8⟩)
    go_ret
    have hz8 := hb8.size
    have hz7 : (w6.setCell ⟨Br, 4, none⟩ (.slice A6 (p.2.2.2.length + 1) c6)).heap.size = w6.heap.size := by simp [World.setCell]
    refine ⟨rfl, hst7.then_ hb8 (by omega), fun _ => ⟨xs, vP, (nm, wd, (La, Ln, Lc), (A6, p.2.2.2.length + 1, c6)), wb, ?_, hP7.below hb8, hxs, hC7.then_ hb8, hbz, ?_, by omega, hn, ?_, h8⟩⟩
    ·have := hB7.below hb8
     simpa [sV, slV] using this
    ·have e1 := (HP.out.trans (if_neg (fun e => by have := HT.out.1 e; exact absurd this (by simp))))
     rw [e1]
     exact ⟨nr, n1, by omega, m1, m2, oL7.below hb8, oLt, own7.below hb8, fun e => by simp at e⟩
    ·rintro p' hp'
     cases hp'
     rw [HP.out.trans (if_neg (fun e => by have := HT.out.1 e; exact absurd this (by simp)))]
     refine ⟨h71, by simp only; omega, by simp; omega, fun e => ?_⟩
     rcases e with e | e
     ·exact absurd e HNP.out
     ·exact absurd (HT.out.1 e) (by simp)
  ·cases q
   ·have g7 := g5 rfl
    clear g5
    go_enter Tryz.func161, Tryz.ntmps161
    go_wp2_with fail
    refine hd.mono ?_
    rintro e w3 ⟨rfl, hb3⟩
    have x0 : w3.cell? ⟨b, off, none⟩ = some (.string B0) := (hb3.cell (p := ⟨b, off, none⟩) hb).trans e0
    have x1 : w3.cell? ⟨b, off + 1, none⟩ = some (.string B1) := (hb3.cell (p := ⟨b, off + 1, none⟩) hb).trans e1
    have x3 : w3.cell? ⟨b, off + 3, none⟩ = some (.string B3) := (hb3.cell (p := ⟨b, off + 3, none⟩) hb).trans e3
    have hbl3 : b < w3.heap.size := Nat.lt_of_lt_of_le hb hb3.size
    go_upto_region 6 with fail
    refine wp_region_ords [0, 1, 2, 3, 4, 5, 6, 7, 8] [(9, false)] [10] (by kernel_rfl) (by kernel_rfl) (fun d _ _ _ _ h => by cases d <;> exact h) ?_
    simp only [List.map_cons, List.map_nil, List.getD_cons_zero, List.getD_cons_succ]
    repeat (go_big_quiet_step (fail))
    refine wpQuiet_nil ?_
    refine wpMid_run rfl (fun K hK => ?_)
    go_simp
    refine hK _ _ (by (repeat first|exact J0|assumption|(apply J1;assumption)|apply J2|apply J3|apply J4)) ?_
    clear hK K
    refine wpMid_nil ?_
    have hX := Blk.new w3.drew 107 #[.string ⟨#[]⟩, .int .i64 0, .bool false]
    go_upto_region 7 with (refine wpList_store_blk hX rfl _ _ _ rfl rfl rfl (by rfl) (by kernel_rfl) (by kernel_rfl) ?_; intro w4 hX4 hc4)
    have hb34 : Below w3.heap.size w3 w4 := chg_bl (bl_alloc (bl_drew bl_refl) _) hc4 (Nat.le_refl _)
    have hb4 := bl_then hb34 hb3
    have y0 : w4.cell? ⟨b, off, none⟩ = some (.string B0) := (hb34.cell (p := ⟨b, off, none⟩) (by have := hb3.size; omega)).trans x0
    have hB4 := hBr.below hb4
    have hP4 := hP.below hb4
    have hC4 := hC.then_ hb4
    have oL4 := oL.below hb4
    have oR4 := oR.below hb4
    have hz4 := hb4.size
    have hz3 : w3.drew.heap.size < w4.heap.size := hX4.lt
    have hzC := hC.size
    have hlo := fun k e => (oL.lt k e).2
    have hz30 := hb3.size
    clear x0 x1 x3 hb3 hb34 hc4 hX e0 e1 e2 e3 hBr hP hC oL oR hd
    go_upto_region 8 with fail
    obtain ⟨g, hg⟩ : ∃ g, w3.drew.heap.size = g := ⟨_, rfl⟩
    have hg0 : w3.heap.size = g := hg
    rw [hg] at hX4 hz3
    rw [hg0]
    have hgB : g ≠ Br := by rintro rfl; unfold Blk at hX4 hB4; rw [hX4] at hB4; simp at hB4
    have hXa := (hX4.drew).alloc (.cells #[.string B1, .int .i64 D, .bool false] 107)
    have hBa := (hB4.drew).alloc (.cells #[.string B1, .int .i64 D, .bool false] 107)
    have hPa := (hP4.drew).alloc (.cells #[.string B1, .int .i64 D, .bool false] 107)
    have oLa := (oL4.drew).alloc (.cells #[.string B1, .int .i64 D, .bool false] 107)
    have oRa := (oR4.drew).alloc (.cells #[.string B1, .int .i64 D, .bool false] 107)
    have hba : Below w4.heap.size w4 (w4.drew.alloc (.cells #[.string B1, .int .i64 D, .bool false] 107)) := bl_alloc (bl_drew bl_refl) _
    have hCa := hC4.then_ hba
    have hua : Sl ec 3 (w4.drew.alloc (.cells #[.string B1, .int .i64 D, .bool false] 107)) (.slice (some ⟨w4.heap.size, 0, none⟩) 1 1) [(a1, D, false)] := Sl.oneG w4.drew _ (a1, D, false) _ (by rw [← HB1.out]; rfl)
    have hza := hba.size
    obtain ⟨P0, hP0⟩ : ∃ P0 : World → Prop, P0 = fun u => u.cell? ⟨Br, 3, none⟩ = some (.slice La Ln Lc) ∧ u.cell? ⟨g, 0, none⟩ = some (.string B1) ∧ u.cell? ⟨g, 1, none⟩ = some (.int .i64 D) ∧ u.cell? ⟨g, 2, none⟩ = some (.bool false) := ⟨_, rfl⟩
    have hPm : ∀ u, Blk u Br 172 #[vP, .string ⟨nm.toArray⟩, .int .i64 wd, .slice La Ln Lc, .slice Ra Rn Rc, .string ⟨a0.toArray⟩] → Blk u g 107 #[.string B1, .int .i64 D, .bool false] → P0 u := fun u h1 h2 => by
     rw [hP0]
     exact ⟨by rw [h1.cell]; rfl, by rw [h2.cell]; rfl, by rw [h2.cell]; rfl, by rw [h2.cell]; rfl⟩
    have hPi : ∀ u, P0 u → u.cell? ⟨Br, 3, none⟩ = some (.slice La Ln Lc) ∧ u.cell? ⟨g, 0, none⟩ = some (.string B1) ∧ u.cell? ⟨g, 1, none⟩ = some (.int .i64 D) ∧ u.cell? ⟨g, 2, none⟩ = some (.bool false) := fun u h => by rw [hP0] at h; exact h
    have hp0 : P0 w4.drew := hPm _ hB4.drew hX4.drew
    have hp1 := hPm _ hBa hXa
    have hcb3 : ∀ u : BelM base w4 P0, u.val.cell? ⟨Br, 3, none⟩ = some (.slice La Ln Lc) := fun u => (hPi _ u.has).1
    have hcg0 : ∀ u : BelM base w4 P0, u.val.cell? ⟨g, 0, none⟩ = some (.string B1) := fun u => (hPi _ u.has).2.1
    have hcg1 : ∀ u : BelM base w4 P0, u.val.cell? ⟨g, 1, none⟩ = some (.int .i64 D) := fun u => (hPi _ u.has).2.2.1
    have hcg2 : ∀ u : BelM base w4 P0, u.val.cell? ⟨g, 2, none⟩ = some (.bool false) := fun u => (hPi _ u.has).2.2.2
    have hst0 : Below base w4 (w4.drew.alloc (.cells #[.string B1, .int .i64 D, .bool false] 107)) := hba.mono (by omega)
    haveI hne' : Nonempty (BelM base w4 P0) := BelM.none_empty hst0 hp1
    clear hP0 hPi
    refine wp_region_ordm (base) (P0) [0, 1, 2, 3, 4, 5, 6] [(7, false), (8, false)] [9, 10, 11, 12] (by kernel_rfl) (by kernel_rfl) (fun d _ _ _ _ h => by cases d <;> exact h) (hp0) ?_
    simp only [List.map_cons, List.map_nil, List.getD_cons_zero, List.getD_cons_succ]
    repeat (go_big_quiet_step (fail))
    refine wpQuiet_nil ?_
    refine wpMid_runm rfl (fun K hK => ?_)
    go_simp
    refine hK _ _ (hst0) (hp1) ?_
    clear hK K
    clear hcb3 hcg0 hcg1 hcg2 hne'
    refine wpMid_runm rfl (fun K hK => ?_)
    refine op_app (l := p.2.2.1) (r := [(a1, D, false)]) edge_elem ec_len ec_one _ _ rfl wb.heap.size _ _ rfl rfl oLa hua (by simp [maxLen]; omega) (by simp; omega) (Nat.le_trans (show wb.heap.size ≤ w4.heap.size by omega) hza) ?_
    intro v6 w6 hown6 hgr6
    replace hgr6 : (w4.drew.alloc (.cells #[.string B1, .int .i64 D, .bool false] 107)).grownBy w6 _ := hgr6
    have hlt6 := oLa.lt
    obtain ⟨A6, c6, rfl⟩ := hown6.shape
    have hX6 := hXa.grown hgr6 (fun e => by have := hlo g e.symm; omega)
    have hB6 := hBa.grown hgr6 (oLa.ne_blk hBa (by decide))
    have hP6 := hPa.kept hgr6 (Own.ne_own hPa oLa (by decide))
    have hst6 : Below base w4 w6 := bl_tgrown hst0 hgr6 (by omega) (fun k e => by have := (hlt6 k e).1; omega)
    have hC6 := hCa.then_grown hgr6 (fun k e => by have := (hlt6 k e).1; omega)
    have h74' : p.2.2.2 = [] := h74 (.inr (HT.out.2 (by trivial)))
    have hRn := oRn h74'
    refine hK _ _ hst6 (hPm _ hB6 hX6) ?_
    have hwr6 : Wrt base Br w w6 := ((Wrt.of_below hb4 (by omega)).then_ hba (by omega)).grown oLa hgr6 (by omega) (by omega)
    clear hK K hp0 hp1 hPm
    refine wpMid_nil ?_
    have hlen6 : (p.2.2.1 ++ [(a1, D, false)]).length = p.2.2.1.length + 1 := by simp
    rw [hlen6] at hown6 ⊢
    have fB6 := hB6.facts
    have fX6 := hX6.facts
    have hB7 := hB6.set_ 3 (.slice A6 (p.2.2.1.length + 1) c6)
    have hX7 := hX6.far (p := ⟨Br, 3, none⟩) hgB (.slice A6 (p.2.2.1.length + 1) c6)
    have fX7 := hX7.facts
    have hC7 := hC6.setIn hB6 (by decide) 3 (.slice A6 (p.2.2.1.length + 1) c6)
    have hP7 := hP6.set (p := ⟨Br, 3, none⟩) (Ne.symm (hP6.ne_blk hB6 (by decide))) (.slice A6 (p.2.2.1.length + 1) c6)
    have own7 := hown6.set (p := ⟨Br, 3, none⟩) (Ne.symm (hown6.ne_blk hB6 (by decide))) (.slice A6 (p.2.2.1.length + 1) c6)
    have hst7 : Wrt base Br w (w6.setCell ⟨Br, 3, none⟩ (.slice A6 (p.2.2.1.length + 1) c6)) := hwr6.set hB6 3 _
    have hz6 := hst6.size
    go_wp2_with (go_at_call 169; refine (hce _).mono ?_; rintro e w8 ⟨rfl, hb8⟩)
    go_ret
    have hz8 := hb8.size
    have hz7 : (w6.setCell ⟨Br, 3, none⟩ (.slice A6 (p.2.2.1.length + 1) c6)).heap.size = w6.heap.size := by simp [World.setCell]
    refine ⟨rfl, hst7.then_ hb8 (by omega), fun _ => ⟨xs, vP, (nm, wd, (A6, p.2.2.1.length + 1, c6), (Ra, Rn, Rc)), wb, ?_, hP7.below hb8, hxs, hC7.then_ hb8, hbz, ?_, by omega, hn, ?_, h8⟩⟩
    ·have := hB7.below hb8
     simpa [sV, slV] using this
    ·have e1 := (HP.out.trans (if_pos (HT.out.2 (by trivial))))
     rw [e1]
     have hRn' : (Ra, Rn, Rc) = ((none, 0, 0) : SlV) := hRn
     refine ⟨w8.heap.size, by omega, Nat.le_refl _, m1, m2, own7.below hb8, fun k e => ((own7.below hb8).lt k e).2, ?_, fun _ => hRn'⟩
     rw [hRn', h74']
     exact Own.nil_
    ·rintro p' hp'
     cases hp'
     rw [HP.out.trans (if_pos (HT.out.2 (by trivial)))]
     exact ⟨h71, by simp; omega, by simp only; omega, fun _ => h74'⟩
   ·clear g5
    go_enter Tryz.func161, Tryz.ntmps161
    go_wp2_with fail
    refine hd.mono ?_
    rintro e w3 ⟨rfl, hb3⟩
    have x0 : w3.cell? ⟨b, off, none⟩ = some (.string B0) := (hb3.cell (p := ⟨b, off, none⟩) hb).trans e0
    have x1 : w3.cell? ⟨b, off + 1, none⟩ = some (.string B1) := (hb3.cell (p := ⟨b, off + 1, none⟩) hb).trans e1
    have x3 : w3.cell? ⟨b, off + 3, none⟩ = some (.string B3) := (hb3.cell (p := ⟨b, off + 3, none⟩) hb).trans e3
    have hbl3 : b < w3.heap.size := Nat.lt_of_lt_of_le hb hb3.size
    go_upto_region 6 with fail
    refine wp_region_ords [0, 1, 2, 3, 4, 5, 6, 7, 8] [(9, false)] [10] (by kernel_rfl) (by kernel_rfl) (fun d _ _ _ _ h => by cases d <;> exact h) ?_
    simp only [List.map_cons, List.map_nil, List.getD_cons_zero, List.getD_cons_succ]
    repeat (go_big_quiet_step (fail))
    refine wpQuiet_nil ?_
    refine wpMid_run rfl (fun K hK => ?_)
    go_simp
    refine hK _ _ (by (repeat first|exact J0|assumption|(apply J1;assumption)|apply J2|apply J3|apply J4)) ?_
    clear hK K
    refine wpMid_nil ?_
    have hX := Blk.new w3.drew 107 #[.string ⟨#[]⟩, .int .i64 0, .bool false]
    go_upto_region 7 with (refine wpList_store_blk hX rfl _ _ _ rfl rfl rfl (by rfl) (by kernel_rfl) (by kernel_rfl) ?_; intro w4 hX4 hc4)
    have hb34 : Below w3.heap.size w3 w4 := chg_bl (bl_alloc (bl_drew bl_refl) _) hc4 (Nat.le_refl _)
    have hb4 := bl_then hb34 hb3
    have y0 : w4.cell? ⟨b, off, none⟩ = some (.string B0) := (hb34.cell (p := ⟨b, off, none⟩) (by have := hb3.size; omega)).trans x0
    have hB4 := hBr.below hb4
    have hP4 := hP.below hb4
    have hC4 := hC.then_ hb4
    have oL4 := oL.below hb4
    have oR4 := oR.below hb4
    have hz4 := hb4.size
    have hz3 : w3.drew.heap.size < w4.heap.size := hX4.lt
    have hzC := hC.size
    have hlo := fun k e => (oL.lt k e).2
    have hz30 := hb3.size
    clear x0 x1 x3 hb3 hb34 hc4 hX e0 e1 e2 e3 hBr hP hC oL oR hd
    go_upto_region 8 with fail
    obtain ⟨g, hg⟩ : ∃ g, w3.drew.heap.size = g := ⟨_, rfl⟩
    have hg0 : w3.heap.size = g := hg
    rw [hg] at hX4 hz3
    rw [hg0]
    have hgB : g ≠ Br := by rintro rfl; unfold Blk at hX4 hB4; rw [hX4] at hB4; simp at hB4
    have hXa := (hX4.drew).alloc (.cells #[.string B1, .int .i64 D, .bool true] 107)
    have hBa := (hB4.drew).alloc (.cells #[.string B1, .int .i64 D, .bool true] 107)
    have hPa := (hP4.drew).alloc (.cells #[.string B1, .int .i64 D, .bool true] 107)
    have oLa := (oL4.drew).alloc (.cells #[.string B1, .int .i64 D, .bool true] 107)
    have oRa := (oR4.drew).alloc (.cells #[.string B1, .int .i64 D, .bool true] 107)
    have hba : Below w4.heap.size w4 (w4.drew.alloc (.cells #[.string B1, .int .i64 D, .bool true] 107)) := bl_alloc (bl_drew bl_refl) _
    have hCa := hC4.then_ hba
    have hua : Sl ec 3 (w4.drew.alloc (.cells #[.string B1, .int .i64 D, .bool true] 107)) (.slice (some ⟨w4.heap.size, 0, none⟩) 1 1) [(a1, D, true)] := Sl.oneG w4.drew _ (a1, D, true) _ (by rw [← HB1.out]; rfl)
    have hza := hba.size
    obtain ⟨P0, hP0⟩ : ∃ P0 : World → Prop, P0 = fun u => u.cell? ⟨Br, 3, none⟩ = some (.slice La Ln Lc) ∧ u.cell? ⟨g, 0, none⟩ = some (.string B1) ∧ u.cell? ⟨g, 1, none⟩ = some (.int .i64 D) ∧ u.cell? ⟨g, 2, none⟩ = some (.bool true) := ⟨_, rfl⟩
    have hPm : ∀ u, Blk u Br 172 #[vP, .string ⟨nm.toArray⟩, .int .i64 wd, .slice La Ln Lc, .slice Ra Rn Rc, .string ⟨a0.toArray⟩] → Blk u g 107 #[.string B1, .int .i64 D, .bool true] → P0 u := fun u h1 h2 => by
     rw [hP0]
     exact ⟨by rw [h1.cell]; rfl, by rw [h2.cell]; rfl, by rw [h2.cell]; rfl, by rw [h2.cell]; rfl⟩
    have hPi : ∀ u, P0 u → u.cell? ⟨Br, 3, none⟩ = some (.slice La Ln Lc) ∧ u.cell? ⟨g, 0, none⟩ = some (.string B1) ∧ u.cell? ⟨g, 1, none⟩ = some (.int .i64 D) ∧ u.cell? ⟨g, 2, none⟩ = some (.bool true) := fun u h => by rw [hP0] at h; exact h
    have hp0 : P0 w4.drew := hPm _ hB4.drew hX4.drew
    have hp1 := hPm _ hBa hXa
    have hcb3 : ∀ u : BelM base w4 P0, u.val.cell? ⟨Br, 3, none⟩ = some (.slice La Ln Lc) := fun u => (hPi _ u.has).1
    have hcg0 : ∀ u : BelM base w4 P0, u.val.cell? ⟨g, 0, none⟩ = some (.string B1) := fun u => (hPi _ u.has).2.1
    have hcg1 : ∀ u : BelM base w4 P0, u.val.cell? ⟨g, 1, none⟩ = some (.int .i64 D) := fun u => (hPi _ u.has).2.2.1
    have hcg2 : ∀ u : BelM base w4 P0, u.val.cell? ⟨g, 2, none⟩ = some (.bool true) := fun u => (hPi _ u.has).2.2.2
    have hst0 : Below base w4 (w4.drew.alloc (.cells #[.string B1, .int .i64 D, .bool true] 107)) := hba.mono (by omega)
    haveI hne' : Nonempty (BelM base w4 P0) := BelM.none_empty hst0 hp1
    clear hP0 hPi
    refine wp_region_ordm (base) (P0) [0, 1, 2, 3, 4, 5, 6] [(7, false), (8, false)] [9, 10, 11, 12] (by kernel_rfl) (by kernel_rfl) (fun d _ _ _ _ h => by cases d <;> exact h) (hp0) ?_
    simp only [List.map_cons, List.map_nil, List.getD_cons_zero, List.getD_cons_succ]
    repeat (go_big_quiet_step (fail))
    refine wpQuiet_nil ?_
    refine wpMid_runm rfl (fun K hK => ?_)
    go_simp
    refine hK _ _ (hst0) (hp1) ?_
    clear hK K
    clear hcb3 hcg0 hcg1 hcg2 hne'
    refine wpMid_runm rfl (fun K hK => ?_)
    refine op_app (l := p.2.2.1) (r := [(a1, D, true)]) edge_elem ec_len ec_one _ _ rfl wb.heap.size _ _ rfl rfl oLa hua (by simp [maxLen]; omega) (by simp; omega) (Nat.le_trans (show wb.heap.size ≤ w4.heap.size by omega) hza) ?_
    intro v6 w6 hown6 hgr6
    replace hgr6 : (w4.drew.alloc (.cells #[.string B1, .int .i64 D, .bool true] 107)).grownBy w6 _ := hgr6
    have hlt6 := oLa.lt
    obtain ⟨A6, c6, rfl⟩ := hown6.shape
    have hX6 := hXa.grown hgr6 (fun e => by have := hlo g e.symm; omega)
    have hB6 := hBa.grown hgr6 (oLa.ne_blk hBa (by decide))
    have hP6 := hPa.kept hgr6 (Own.ne_own hPa oLa (by decide))
    have hst6 : Below base w4 w6 := bl_tgrown hst0 hgr6 (by omega) (fun k e => by have := (hlt6 k e).1; omega)
    have hC6 := hCa.then_grown hgr6 (fun k e => by have := (hlt6 k e).1; omega)
    have h74' : p.2.2.2 = [] := h74 (.inr (HT.out.2 (by trivial)))
    have hRn := oRn h74'
    refine hK _ _ hst6 (hPm _ hB6 hX6) ?_
    have hwr6 : Wrt base Br w w6 := ((Wrt.of_below hb4 (by omega)).then_ hba (by omega)).grown oLa hgr6 (by omega) (by omega)
    clear hK K hp0 hp1 hPm
    refine wpMid_nil ?_
    have hlen6 : (p.2.2.1 ++ [(a1, D, true)]).length = p.2.2.1.length + 1 := by simp
    rw [hlen6] at hown6 ⊢
    have fB6 := hB6.facts
    have fX6 := hX6.facts
    have hB7 := hB6.set_ 3 (.slice A6 (p.2.2.1.length + 1) c6)
    have hX7 := hX6.far (p := ⟨Br, 3, none⟩) hgB (.slice A6 (p.2.2.1.length + 1) c6)
    have fX7 := hX7.facts
    have hC7 := hC6.setIn hB6 (by decide) 3 (.slice A6 (p.2.2.1.length + 1) c6)
    have hP7 := hP6.set (p := ⟨Br, 3, none⟩) (Ne.symm (hP6.ne_blk hB6 (by decide))) (.slice A6 (p.2.2.1.length + 1) c6)
    have own7 := hown6.set (p := ⟨Br, 3, none⟩) (Ne.symm (hown6.ne_blk hB6 (by decide))) (.slice A6 (p.2.2.1.length + 1) c6)
    have hst7 : Wrt base Br w (w6.setCell ⟨Br, 3, none⟩ (.slice A6 (p.2.2.1.length + 1) c6)) := hwr6.set hB6 3 _
    have hz6 := hst6.size
    go_wp2_with (go_at_call 169; refine (hce _).mono ?_; rintro e w8 ⟨rfl, hb8⟩)
    go_ret
    have hz8 := hb8.size
    have hz7 : (w6.setCell ⟨Br, 3, none⟩ (.slice A6 (p.2.2.1.length + 1) c6)).heap.size = w6.heap.size := by simp [World.setCell]
    refine ⟨rfl, hst7.then_ hb8 (by omega), fun _ => ⟨xs, vP, (nm, wd, (A6, p.2.2.1.length + 1, c6), (Ra, Rn, Rc)), wb, ?_, hP7.below hb8, hxs, hC7.then_ hb8, hbz, ?_, by omega, hn, ?_, h8⟩⟩
    ·have := hB7.below hb8
     simpa [sV, slV] using this
    ·have e1 := (HP.out.trans (if_pos (HT.out.2 (by trivial))))
     rw [e1]
     have hRn' : (Ra, Rn, Rc) = ((none, 0, 0) : SlV) := hRn
     refine ⟨w8.heap.size, by omega, Nat.le_refl _, m1, m2, own7.below hb8, fun k e => ((own7.below hb8).lt k e).2, ?_, fun _ => hRn'⟩
     rw [hRn', h74']
     exact Own.nil_
    ·rintro p' hp'
     cases hp'
     rw [HP.out.trans (if_pos (HT.out.2 (by trivial)))]
     exact ⟨h71, by simp; omega, by simp only; omega, fun _ => h74'⟩
end Go.Proofs.YtkkefahobjlagaaGreatDoor

/- The reference: reach, crossing outlines, walked; errors of panels, plain. Conditions: bounds. -/
import Derived.Test.YtkkefahobjlagaaGreatDoorQ38
import Derived.Test.YtkkefahobjlagaaGreatDoorQ17
import Derived.Test.YtkkefahobjlagaaGreatDoorQ10
namespace Go.Proofs.YtkkefahobjlagaaGreatDoor
open Go.RowKit Go.ChangeMaps
set_option maxHeartbeats 4000000
set_option maxRecDepth 100000
attribute [local go_sem] Oper.semAt_some
def bearB (l : List Knot) (row : Int) (k : Nat) : Bool := decide ((l.getD k (0, 0)).2 = row) || (decide (0 < k) && (decide ((l.getD (k - 1) (0, 0)).2 < row) && decide (row < (l.getD k (0, 0)).2)))
theorem rchI_at {l : List Knot} {k : Nat} (hk : k < l.length) (row : Int) : rchI (l.take (k + 1)) row = if bearB l row k then minmax (rchI (l.take k) row) (l.getD k (0, 0)).1 else rchI (l.take k) row := by
 have g : ∀ i (h : i < l.length), l.getD i (0, 0) = l[i] := fun i h => by rw [List.getD_eq_getElem?_getD, List.getElem?_eq_getElem h]; rfl
 cases k with
 | zero =>
  unfold bearB
  rw [g 0 hk]
  rw [List.take_succ_eq_append_getElem hk]
  simp only [List.take_zero, List.nil_append]
  show rchGo row l[0].2 [l[0]] noneR = _
  rw [rchGo, rchGo]
  have : hitR row l[0].2 l[0] = (decide (l[0].2 = row) || (decide ((0 : Nat) < 0) && (decide ((l.getD (0 - 1) (0, 0)).2 < row) && decide (row < l[0].2)))) := by
   unfold hitR
   rw [Bool.eq_iff_iff]
   simp
   omega
  rw [this]
  rfl
 | succ j =>
  have hj : j < l.length := by omega
  have e1 : l.take (j + 1) = l.take j ++ [l[j]] := List.take_succ_eq_append_getElem hj
  have e2 : l.take (j + 1 + 1) = l.take j ++ [l[j], l[j + 1]] := take_two hk
  rw [e2, rchI_snoc, ← e1]
  unfold bearB
  rw [g (j + 1) hk, show j + 1 - 1 = j from rfl, g j hj]
  have : hitR row l[j].2 l[j + 1] = (decide (l[j + 1].2 = row) || (decide (0 < j + 1) && (decide (l[j].2 < row) && decide (row < l[j + 1].2)))) := by
   unfold hitR
   rw [Bool.eq_iff_iff]
   simp
  rw [this]
theorem rchI_box {l : List Knot} (h : ∀ k ∈ l, -100000 ≤ k.1 ∧ k.1 ≤ 100000) (row : Int) : ∀ k : Nat, k ≤ l.length → (-100000 ≤ (rchI (l.take k) row).1 ∧ (rchI (l.take k) row).1 ≤ 999999999) ∧ (-999999999 ≤ (rchI (l.take k) row).2 ∧ (rchI (l.take k) row).2 ≤ 100000)
 | 0, _ => by simp [rchI, noneR]
 | k + 1, hk => by
  have ih := rchI_box h row k (by omega)
  have hx := h _ (List.getElem_mem (show k < l.length by omega))
  rw [rchI_at (by omega)]
  have g : l.getD k (0, 0) = l[k] := by rw [List.getD_eq_getElem?_getD, List.getElem?_eq_getElem (by omega)]; rfl
  rw [g]
  split
  ·unfold minmax
   simp only
   omega
  ·exact ih
theorem rreach_any {v : Value} (l : List Knot) (row : Int) (w : World) (h : SlK w v l) (hlen : l.length ≤ 100000) :
  Calls Tryz.prog 116 #[v, .int .i64 row] w (RV w (.agg #[.int .i64 (rchI l row).1, .int .i64 (rchI l row).2])) := by
 obtain ⟨A, c, rfl, hlc, hcm, hr⟩ := h
 have hN := Blk.new w 73 #[.int .i64 0, .int .i64 0]
 have hb1 : Below w.heap.size w (w.alloc (.cells #[.int .i64 0, .int .i64 0] 73)) := bl_alloc bl_refl _
 go_enter Tryz.func116, Tryz.ntmps116
 go_wp2
 obtain ⟨w1, hw1⟩ : ∃ X, w.alloc (.cells #[.int .i64 0, .int .i64 0] 73) = X := ⟨_, rfl⟩
 rw [hw1] at hN hb1 ⊢
 clear hw1
 go_loopw [5, 6, 7] (fun a b i wr => ∃ (k : Nat) (x y : Int), k ≤ l.length ∧ i = .int .i64 k ∧ a = .int .i64 x ∧ b = .int .i64 y ∧ Hid (rchI (l.take k) row = (x, y)) ∧ Below w1.heap.size w1 wr) (fun _ _ i _ => l.length - (intOf i).toNat)
 case atStart => exact ⟨0, 999999999, -999999999, Nat.zero_le _, rfl, rfl, rfl, rfl, by (repeat first|exact J0|assumption|(apply J1;assumption)|apply J2|apply J3|apply J4)⟩
 case round =>
  obtain ⟨k, x, y, hk, rfl, rfl, rfl, H, hbw⟩ := hrel
  obtain ⟨wo, rfl⟩ : ∃ x, x = wr := ⟨_, rfl⟩
  by_cases hlt : k < l.length
  ·obtain ⟨b, off, rfl, hb, e0, e1⟩ := ((hr.below hb1).below hbw).knot hlt
   have HA := Lib.hid (rchI_at hlt row)
   have gk : l.getD k (0, 0) = l[k] := by rw [List.getD_eq_getElem?_getD, List.getElem?_eq_getElem hlt]; rfl
   have HB : Hid (bearB l row k = (decide (l[k].2 = row) || (decide (0 < k) && (decide ((l.getD (k - 1) (0, 0)).2 < row) && decide (row < l[k].2))))) := by unfold Hid bearB; rw [gk]
   rw [gk] at HA
   clear gk
   obtain ⟨⟨X, Y⟩, hX⟩ : ∃ z, l[k] = z := ⟨_, rfl⟩
   rw [hX] at e0 e1 HA HB
   simp only at e0 e1
   have HHit : Hid (bearB l row k = true → rchI (l.take (k + 1)) row = (min x X, max y X)) := fun hq => by rw [HA.out, if_pos hq, H.out]; rfl
   have HMis : Hid (bearB l row k = false → rchI (l.take (k + 1)) row = (x, y)) := fun hq => by rw [HA.out, if_neg (by rw [hq]; simp), H.out]
   clear hX HA
   by_cases h1 : Y = row
   ·have HN : Hid (rchI (l.take (k + 1)) row = (min x X, max y X)) := HHit.out (by rw [HB.out]; simp [h1])
    subst h1
    clear HHit HMis
    go_upto_region 6 with fail
    refine wp_region_ords [0, 1, 2, 3, 4, 5, 6, 7, 8, 9, 10, 11, 12, 13, 14, 15] [] [] (by kernel_rfl) (by kernel_rfl) (fun d _ _ _ _ h => by cases d <;> exact h) ?_
    simp only [List.map_cons, List.map_nil, List.getD_cons_zero, List.getD_cons_succ]
    repeat (go_big_quiet_step (fail))
    refine wpQuiet_nil ?_
    refine wpMid_nil ?_
    go_wp2
    go_roundw
    case rel => exact ⟨k + 1, _, _, by omega, by go_num, rfl, rfl, HN.out, by (repeat first|exact J0|assumption|(apply J1;assumption)|apply J2|apply J3|apply J4)⟩
    case measure => simp [intOf]; omega
   ·have t1 : (Y == row) = false := beq_false_of_ne h1
    by_cases h0 : k = 0
    ·have HN : Hid (rchI (l.take (k + 1)) row = (x, y)) := HMis.out (by rw [HB.out]; simp [h1, h0])
     subst h0
     clear HHit HMis
     go_wp2
     go_roundw
     case rel => exact ⟨0 + 1, _, _, by omega, by go_num, rfl, rfl, HN.out, hbw⟩
     case measure => simp [intOf]; omega
    ·have t0 : (0 < (k : Int)) = True := eq_true (by omega)
     obtain ⟨j, rfl⟩ : ∃ j, k = j + 1 := ⟨k - 1, by omega⟩
     have hj : j < l.length := by omega
     have gj : l.getD (j + 1 - 1) (0, 0) = l[j] := by rw [List.getD_eq_getElem?_getD, show j + 1 - 1 = j from rfl, List.getElem?_eq_getElem hj]; rfl
     obtain ⟨b', off', hA2, _, p0, p1⟩ := ((hr.below hb1).below hbw).knot hj
     obtain ⟨rfl, rfl⟩ : b = b' ∧ off = off' := by simpa using hA2
     rw [gj] at HB
     clear gj hA2
     obtain ⟨⟨PX, PY⟩, hPX⟩ : ∃ z, l[j] = z := ⟨_, rfl⟩
     rw [hPX] at p0 p1 HB
     simp only at p0 p1
     have e3 : (((j + 1 : Nat) : Int) - 1) = (j : Int) := by omega
     clear hPX
     by_cases h2 : PY < row
     ·have t2 : (PY < row) = True := eq_true h2
      by_cases h3 : row < Y
      ·have t3 : (row < Y) = True := eq_true h3
       have HN : Hid (rchI (l.take (j + 1 + 1)) row = (min x X, max y X)) := HHit.out (by rw [HB.out]; simp [h2, h3])
       clear HHit HMis h2 h3
       go_upto_region 6 with fail
       refine wp_region_ords [0, 1, 2, 3, 4, 5, 6, 7, 8, 9, 10, 11, 12, 13, 14, 15] [] [] (by kernel_rfl) (by kernel_rfl) (fun d _ _ _ _ h => by cases d <;> exact h) ?_
       simp only [List.map_cons, List.map_nil, List.getD_cons_zero, List.getD_cons_succ]
       repeat (go_big_quiet_step (fail))
       refine wpQuiet_nil ?_
       refine wpMid_nil ?_
       go_wp2
       go_roundw
       case rel => exact ⟨j + 1 + 1, _, _, by omega, by go_num, rfl, rfl, HN.out, by (repeat first|exact J0|assumption|(apply J1;assumption)|apply J2|apply J3|apply J4)⟩
       case measure => simp [intOf]; omega
      ·have t3 : (row < Y) = False := eq_false h3
       have HN : Hid (rchI (l.take (j + 1 + 1)) row = (x, y)) := HMis.out (by rw [HB.out]; simp [h1, h3])
       clear HHit HMis h2 h3
       go_wp2
       go_roundw
       case rel => exact ⟨j + 1 + 1, _, _, by omega, by go_num, rfl, rfl, HN.out, hbw⟩
       case measure => simp [intOf]; omega
     ·have t2 : (PY < row) = False := eq_false h2
      have HN : Hid (rchI (l.take (j + 1 + 1)) row = (x, y)) := HMis.out (by rw [HB.out]; simp [h1, h2])
      clear HHit HMis h2
      go_wp2
      go_roundw
      case rel => exact ⟨j + 1 + 1, _, _, by omega, by go_num, rfl, rfl, HN.out, hbw⟩
      case measure => simp [intOf]; omega
  ·obtain rfl : k = l.length := by omega
   have HT : Hid (rchI l row = (x, y)) := by have := H.out; rwa [List.take_length] at this
   have hN2 := hN.below hbw
   go_wp2_with (refine wpList_store_blk hN2 rfl _ _ _ rfl rfl rfl (by rfl) (by kernel_rfl) (by kernel_rfl) ?_; intro w3 hN3 hc3; have fN3 := hN3.facts)
   have hb3 : Below w.heap.size w w3 := chg_bl (bl_then hbw hb1) hc3 (Nat.le_refl _)
   refine bodyPost_ret (v := .agg #[.int .i64 x, .int .i64 y]) (by simp [results, Tryz.results116, go_sem, fN3]) rfl ?_
   exact ⟨by rw [HT.out], hb3⟩
theorem crossB_succ (L R : List Knot) (n : Nat) : crossB L R (n + 1) = (crossB L R n || decide ((rchI R (n : Nat)).1 < (rchI L (n : Nat)).2 + 2)) := by
 unfold crossB
 rw [List.range_succ, List.any_append]
 simp
theorem crossB_hit (L R : List Knot) {n k : Nat} (hk : k < n) (h : (rchI R (k : Nat)).1 < (rchI L (k : Nat)).2 + 2) : crossB L R n = true := by
 unfold crossB
 rw [List.any_eq_true]
 exact ⟨k, List.mem_range.2 hk, decide_eq_true h⟩
@[go_sem] theorem idxP_0 (a b : Int) (w : World) : (Instr.index 73 (.agg #[.int .i64 a, .int .i64 b]) (.int .i64 0)).run Tryz.prog w = .ok (.int .i64 a) w := by kernel_rfl
@[go_sem] theorem idxP_1 (a b : Int) (w : World) : (Instr.index 73 (.agg #[.int .i64 a, .int .i64 b]) (.int .i64 1)).run Tryz.prog w = .ok (.int .i64 b) w := by kernel_rfl
theorem rcrosses_any {vL vR : Value} (L R : List Knot) (n : Nat) (w : World) (hL : SlK w vL L) (hR : SlK w vR R) (h1 : ∀ k ∈ L, -100000 ≤ k.1 ∧ k.1 ≤ 100000) (h2 : ∀ k ∈ R, -100000 ≤ k.1 ∧ k.1 ≤ 100000) (hl : L.length ≤ 100000) (hr : R.length ≤ 100000) (hn : n ≤ 1000) :
  Calls Tryz.prog 60 #[vL, vR, .int .i64 n] w (RV w (.bool (crossB L R (n + 1)))) := by
 have hcL := fun (row : Int) W (hb : Below w.heap.size w W) => rreach_any L row W (hL.below hb) hl
 have hcR := fun (row : Int) W (hb : Below w.heap.size w W) => rreach_any R row W (hR.below hb) hr
 have nL := fun (row : Int) => rchI_box h1 row L.length (Nat.le_refl _)
 have nR := fun (row : Int) => rchI_box h2 row R.length (Nat.le_refl _)
 simp only [List.take_length] at nL nR
 clear hL hR h1 h2 hl hr
 go_enter Tryz.func60, Tryz.ntmps60
 go_wp2
 go_loopw [7] (fun i wr => ∃ k : Nat, k ≤ n + 1 ∧ i = .int .i64 k ∧ Hid (crossB L R k = false) ∧ Below w.heap.size w wr) (fun i _ => n + 1 - (intOf i).toNat)
 case atStart => exact ⟨0, Nat.zero_le _, rfl, rfl, by (repeat first|exact J0|assumption|(apply J1;assumption)|apply J2|apply J3|apply J4)⟩
 case round =>
  obtain ⟨k, hk, rfl, H, hbw⟩ := hrel
  obtain ⟨wo, rfl⟩ : ∃ x, x = wr := ⟨_, rfl⟩
  by_cases hlt : k ≤ n
  ·have HS := Lib.hid (crossB_succ L R k)
   have HI := Lib.hid (fun h => crossB_hit L R (n := n + 1) (k := k) (by omega) h)
   have cL := hcL k
   have cR := hcR k
   have bL := nL k
   have bR := nR k
   obtain ⟨⟨a, b⟩, ha⟩ : ∃ z, rchI L (k : Nat) = z := ⟨_, rfl⟩
   obtain ⟨⟨c, d⟩, hc⟩ : ∃ z, rchI R (k : Nat) = z := ⟨_, rfl⟩
   rw [ha] at HS HI cL bL
   rw [hc] at HS HI cR bR
   simp only at cL cR bL bR
   clear ha hc nL nR hcL hcR
   go_wp2_with fail
   refine (cR _ (by (repeat first|exact J0|assumption|(apply J1;assumption)|apply J2|apply J3|apply J4))).mono ?_
   rintro e w2 ⟨rfl, hb2⟩
   go_wp2_with fail
   refine (cL _ (by (repeat first|exact J0|assumption|(apply J1;assumption)|apply J2|apply J3|apply J4))).mono ?_
   rintro e w3 ⟨rfl, hb3⟩
   by_cases h : c < b + 2
   ·have HT : Hid (crossB L R (n + 1) = true) := HI.out h
    have t1 : (c - b < 2) = True := eq_true (by omega)
    clear h cL cR
    go_wp2
    go_ret
    exact ⟨by rw [HT.out]; rfl, by (repeat first|exact J0|assumption|(apply J1;assumption)|apply J2|apply J3|apply J4)⟩
   ·have HT : Hid (crossB L R (k + 1) = false) := by unfold Hid; rw [HS.out, H.out, decide_eq_false h]; rfl
    have t1 : (c - b < 2) = False := eq_false (by omega)
    clear h cL cR
    go_wp2
    go_roundw
    case rel => exact ⟨k + 1, by omega, by go_num, HT.out, by (repeat first|exact J0|assumption|(apply J1;assumption)|apply J2|apply J3|apply J4)⟩
    case measure => simp [intOf]; omega
  ·obtain rfl : k = n + 1 := by omega
   go_wp2
   go_ret
   exact ⟨by rw [H.out]; rfl, hbw⟩
theorem out_near (p : Pan) (right : Bool) (hw : 1 ≤ p.2.1 ∧ p.2.1 ≤ 128) (hs : (stpL (sideP p right)).length ≤ 512) : ∀ k ∈ outP p right, -4096 ≤ k.1 ∧ k.1 ≤ 4096 := by
 intro k hk
 obtain ⟨i, hi, rfl⟩ := List.getElem_of_mem hk
 unfold outP at hi ⊢
 rw [outK_get]
 have h0 : -256 ≤ (fromP p right).1 ∧ (fromP p right).1 ≤ 256 ∧ 0 ≤ (fromP p right).2 ∧ (fromP p right).2 ≤ 256 := by
  unfold fromP
  split <;> simp only <;> omega
 have := end_near (right := right) (n := 256) ((stpL (sideP p right)).take i) h0
 have hl : (((stpL (sideP p right)).take i).length : Int) ≤ 512 := by simp; omega
 omega
def panE2 (p : Pan) : Int := firstI [withinI p.2.1 1 128, sideE p.2.2.1, sideE p.2.2.2]
theorem panE_named {p : Pan} (h : nameR p.1 = true) : panE p = if panE2 p ≠ 0 then panE2 p else if panE1 p ≠ 0 then panE1 p else whenI (crossB (outP p false) (outP p true) ((heightP p).toNat + 1)) 16 := by
 have : panE0 p = panE2 p := by
  unfold panE0 panE2
  rw [h]
  simp [whenI, firstI]
 unfold panE
 rw [this]
theorem panE_noname {p : Pan} (h : nameR p.1 = false) : panE p = 8 := by
 have : panE0 p = 8 := by
  unfold panE0
  rw [h]
  simp [whenI, firstI]
 unfold panE
 rw [this]
 rfl
theorem panE2_zero {p : Pan} (h : nameR p.1 = true) (h2 : panE2 p = 0) : (1 ≤ p.2.1 ∧ p.2.1 ≤ 128) ∧ SideOk p.2.2.1 ∧ SideOk p.2.2.2 := by
 have : panE0 p = 0 := by
  unfold panE0
  rw [h]
  unfold panE2 at h2
  simpa [whenI, firstI] using h2
 exact (panE0_zero this).2
theorem rcheckPanel_any {vL vR : Value} (p : Pan) (w : World) (hnm : p.1.length ≤ 1000000) (hL : SlE w vL p.2.2.1) (hR : SlE w vR p.2.2.2) (hwL : ∀ e ∈ p.2.2.1, e.1.length ≤ 1000000) (hwR : ∀ e ∈ p.2.2.2, e.1.length ≤ 1000000) :
    Calls Tryz.prog 10 #[.agg #[sV p.1, .int .i64 p.2.1, vL, vR]] w (RV w (.int .i64 (panE p))) := by
  have hN := fun h => panE_noname (p := p) h
  have hY := fun h => panE_named (p := p) h
  have hZ2 := fun h => panE2_zero (p := p) h
  have hnear := fun right h1 h2 => out_near p right h1 h2
  have hhr := heightP_range p
  have hrO := fun right W hl hr hb (hB : Below w.heap.size w W) => routline_any p right W (hL.below hB) (hR.below hB) hl hr hb
  have hrH := fun W hl (hB : Below w.heap.size w W) => rheight_any (vR := vR) p W (hL.below hB) hl
  have hsL := fun W (hB : Below w.heap.size w W) => rcheckSide_any p.2.2.1 W (hL.below hB) hwL
  have hsR := fun W (hB : Below w.heap.size w W) => rcheckSide_any p.2.2.2 W (hR.below hB) hwR
  have hSR := fun W hr (hB : Below w.heap.size w W) => rsteps_any p.2.2.2 W (hR.below hB) hr
  have hF : ∀ A c' W, Rd ic 1 W A [withinI p.2.1 1 128, sideE p.2.2.1, sideE p.2.2.2] → Calls Tryz.prog 54 #[.slice A 3 c'] W (RV W (.int .i64 (panE2 p))) := fun A c' W hr => rfirst_any [withinI p.2.1 1 128, sideE p.2.2.1, sideE p.2.2.2] A c' W (by simp [maxLen]) hr
  have hP1 : panE1 p = firstI [whenI (decide (heightP p ≠ riseL (stpL p.2.2.2))) 2, whenI (decide (heightP p = 0)) 12, whenI (decide (256 < heightP p)) 4] := rfl
  have ho : ∀ right, (outP p right).length = (stpL (sideP p right)).length + 1 := fun right => outK_len _ _ _
  have HOL := Lib.hid (ho false)
  have HOR := Lib.hid (ho true)
  obtain ⟨AL, cL, rfl, hLc, hLm, rL⟩ := hL
  obtain ⟨AR, cR, rfl, hRc, hRm, rR⟩ := hR
  have hB1 := Blk.new w 24 #[sV p.1, .int .i64 p.2.1, .slice AL p.2.2.1.length cL, .slice AR p.2.2.2.length cR]
  have HS2 : Hid (stpL p.2.2.2 = stpL (sideP p true)) := rfl
  have HS1 : Hid (stpL p.2.2.1 = stpL (sideP p false)) := rfl
  have hrn := rname_any p.1 hnm
  unfold sV at hB1 hrO hrH hrn ⊢
  obtain ⟨E, hE⟩ : ∃ E, panE p = E := ⟨_, rfl⟩
  obtain ⟨H, hH⟩ : ∃ E, heightP p = E := ⟨_, rfl⟩
  obtain ⟨E2, hE2⟩ : ∃ E, panE2 p = E := ⟨_, rfl⟩
  obtain ⟨E1, hE1⟩ : ∃ E, panE1 p = E := ⟨_, rfl⟩
  obtain ⟨q, hq⟩ : ∃ E, nameR p.1 = E := ⟨_, rfl⟩
  obtain ⟨SR, hSr⟩ : ∃ E, stpL p.2.2.2 = E := ⟨_, rfl⟩
  rw [hSr] at hSR hP1 HS2
  have HS3 := Lib.hid hSr
  rw [hq] at hN hY hZ2 hrn
  rw [hE2] at hF hY hZ2
  rw [hE] at hN hY ⊢
  rw [hH] at hY hrH hP1 hhr
  rw [hE1] at hY hP1
  clear rL rR hE hE2 hE1 hq hH hSr hwL hwR ho hnm
  have hf1 := hB1.facts
  cases q
  · have HN := Lib.hid (hN rfl)
    clear hN hY
    go_enter Tryz.func10, Tryz.ntmps10
    go_wp2_with (go_at_call 53; refine (hrn _).mono ?_; rintro e w1 ⟨rfl, hb1⟩)
    go_ret
    exact ⟨by rw [HN.out]; rfl, by (repeat first|exact J0|assumption|(apply J1;assumption)|apply J2|apply J3|apply J4)⟩
  · have HY := Lib.hid (hY rfl)
    have HZ := Lib.hid (hZ2 rfl)
    clear hN hY hZ2
    go_enter Tryz.func10, Tryz.ntmps10
    go_wp2_with fail
    refine (hrn _).mono ?_
    rintro e w1 ⟨rfl, hb1⟩
    replace hB1 := hB1.below (show Below _ _ w1 by (repeat first|exact J0|assumption|(apply J1;assumption)|apply J2|apply J3|apply J4))
    replace fhB1 := hB1.facts
    have hk1 := hB1.facts
    go_upto_region 3 with fail
    refine wp_region_ords [0, 1, 3, 4, 6, 7] [(2, false), (5, false)] [8, 9, 10, 11] (by kernel_rfl) (by kernel_rfl) (fun d _ _ _ _ h => by cases d <;> exact h) ?_
    simp only [List.map_cons, List.map_nil, List.getD_cons_zero, List.getD_cons_succ]
    repeat (go_big_quiet_step (fail))
    refine wpQuiet_nil ?_
    refine wpMid_run rfl (fun K hK => ?_)
    go_simp
    refine (rrange_any _ 1 128 _).mono ?_
    rintro e w2 ⟨rfl, hb2⟩
    refine hK _ _ (by (repeat first|exact J0|assumption|(apply J1;assumption)|apply J2|apply J3|apply J4)) ?_
    clear hK K
    have hB1_w2 := hB1.below (show Below _ _ w2 by (repeat first|exact J0|assumption|(apply J1;assumption)|apply J2|apply J3|apply J4))
    have fhB1_w2 := hB1_w2.facts
    refine wpMid_run rfl (fun K hK => ?_)
    go_simp
    refine (hsL _ (by (repeat first|exact J0|assumption|(apply J1;assumption)|apply J2|apply J3|apply J4))).mono ?_
    rintro e w3 ⟨rfl, hb3⟩
    refine hK _ _ (by (repeat first|exact J0|assumption|(apply J1;assumption)|apply J2|apply J3|apply J4)) ?_
    clear hK K
    have hB1_w3 := hB1.below (show Below _ _ w3 by (repeat first|exact J0|assumption|(apply J1;assumption)|apply J2|apply J3|apply J4))
    have fhB1_w3 := hB1_w3.facts
    refine wpMid_nil ?_
    go_wp2_with (go_at_call 56; refine (hsR _ (by (repeat first|exact J0|assumption|(apply J1;assumption)|apply J2|apply J3|apply J4))).mono ?_; rintro e w4 ⟨rfl, hb4⟩)
    go_must (refine (hF _ _ _ (Rd.ints3 (by simp) (by go_simp) (by go_simp) (by go_simp))).mono ?_)
    rintro e w5 ⟨rfl, hb5⟩
    have hB5 := hB1.below (show Below w1.heap.size w1 w5 by (repeat first|exact J0|assumption|(apply J1;assumption)|apply J2|apply J3|apply J4))
    have hbw5 : Below w.heap.size w w5 := by (repeat first|exact J0|assumption|(apply J1;assumption)|apply J2|apply J3|apply J4)
    clear hF hsL hsR hb1 hb2 hb3 hb4 hb5 hB1 hk1
    have hf5 := hB5.facts
    by_cases hz : E2 = 0
    · have t5 : (E2 != 0) = false := by simp [hz]
      obtain ⟨hwd, hlok, hrok⟩ := HZ.out hz
      have HY2 : Hid (E = if E1 ≠ 0 then E1 else whenI (crossB (outP p false) (outP p true) (H.toNat + 1)) 16) := by unfold Hid; rw [HY.out, if_neg (by simp [hz])]
      have hwd' : 0 ≤ p.2.1 ∧ p.2.1 ≤ 128 := ⟨by omega, hwd.2⟩
      have hll := hlok.len
      have hrl := hrok.len
      rw [HS1.out] at hll hhr
      rw [HS3.out] at hrl
      clear hz HY HZ
      go_wp2_with fail
      refine (hrH _ hlok hbw5).mono ?_
      rintro e w6 ⟨rfl, hb6⟩
      replace hB5 := hB5.below (show Below _ _ w6 by (repeat first|exact J0|assumption|(apply J1;assumption)|apply J2|apply J3|apply J4))
      replace fhB5 := hB5.facts
      go_wp2_with fail
      refine (hSR _ hrok (by (repeat first|exact J0|assumption|(apply J1;assumption)|apply J2|apply J3|apply J4))).mono ?_
      rintro e w7 ⟨v7, rfl, hO7, hb7⟩
      replace hB5 := hB5.below (show Below _ _ w7 by (repeat first|exact J0|assumption|(apply J1;assumption)|apply J2|apply J3|apply J4))
      replace fhB5 := hB5.facts
      go_wp2_with fail
      refine (rrise_any SR _ (hO7.rd sc_len) (by omega)).mono ?_
      rintro e w8 ⟨rfl, hb8⟩
      replace hB5 := hB5.below (show Below _ _ w8 by (repeat first|exact J0|assumption|(apply J1;assumption)|apply J2|apply J3|apply J4))
      replace fhB5 := hB5.facts
      obtain ⟨RR, hRR⟩ : ∃ z, riseL SR = z := ⟨_, rfl⟩
      rw [hRR] at hP1 ⊢
      have hbw8 : Below w.heap.size w w8 := by (repeat first|exact J0|assumption|(apply J1;assumption)|apply J2|apply J3|apply J4)
      clear hRR hO7 hb6 hb7 hb8 hbw5 hSR hrH
      by_cases c1 : H = RR
      · by_cases c2 : H = 0
        · have HT : Hid (E = 12) := by
            have : E1 = 12 := by rw [hP1, c2, ← c1, c2]; rfl
            unfold Hid; rw [HY2.out, this]; rfl
          subst c1
          subst c2
          clear hP1 HY2
          go_wp2
          go_ret
          exact ⟨by rw [HT.out]; rfl, hbw8⟩
        · have s2 : (H == 0) = false := beq_false_of_ne c2
          by_cases c3 : 256 < H
          · have HT : Hid (E = 4) := by
              have : E1 = 4 := by rw [hP1, ← c1, decide_eq_false (by simp), decide_eq_false c2, decide_eq_true c3]; rfl
              unfold Hid; rw [HY2.out, this]; rfl
            have s3 : (256 < H) = True := eq_true c3
            subst c1
            clear hP1 HY2 c2 c3
            go_wp2
            go_ret
            exact ⟨by rw [HT.out]; rfl, hbw8⟩
          · have s3 : (256 < H) = False := eq_false c3
            have HT : Hid (E = whenI (crossB (outP p false) (outP p true) (H.toNat + 1)) 16) := by
              have : E1 = 0 := by rw [hP1, ← c1, decide_eq_false (by simp), decide_eq_false c2, decide_eq_false c3]; rfl
              unfold Hid; rw [HY2.out, this]; rfl
            have hH0 := hhr.1
            obtain ⟨n, hn⟩ : ∃ n : Nat, H = n := ⟨H.toNat, by omega⟩
            have hn2 : n ≤ 256 := by omega
            have nL := hnear false hwd (by omega)
            have nR := hnear true hwd (by rw [← HS2.out]; omega)
            have hoL := hrO false
            have hoR := hrO true
            obtain ⟨OL, hOL⟩ : ∃ z, outP p false = z := ⟨_, rfl⟩
            obtain ⟨OR, hOR⟩ : ∃ z, outP p true = z := ⟨_, rfl⟩
            have hlL : OL.length ≤ 513 := by have := HOL.out; rw [hOL] at this; omega
            have hlR : OR.length ≤ 513 := by have := HOR.out; rw [hOR, ← HS2.out] at this; omega
            rw [hOL] at hoL nL HT
            rw [hOR] at hoR nR HT
            subst c1
            subst hn
            rw [Int.toNat_natCast] at HT
            clear hP1 HY2 c2 c3 hrO hnear hOL hOR HOL HOR hhr hH0
            go_upto_region 13 with fail
            refine wp_region_ords [0, 2] [(1, false)] [3, 4, 5] (by kernel_rfl) (by kernel_rfl) (fun d _ _ _ _ h => by cases d <;> exact h) ?_
            simp only [List.map_cons, List.map_nil, List.getD_cons_zero, List.getD_cons_succ]
            repeat (go_big_quiet_step (fail))
            refine wpQuiet_nil ?_
            refine wpMid_run rfl (fun K hK => ?_)
            go_simp
            refine (hoL _ hlok hrok hwd' (by (repeat first|exact J0|assumption|(apply J1;assumption)|apply J2|apply J3|apply J4))).mono ?_
            rintro e w9 ⟨v9, rfl, hO9, hb9⟩
            refine hK _ _ (by (repeat first|exact J0|assumption|(apply J1;assumption)|apply J2|apply J3|apply J4)) ?_
            clear hK K
            have hB5_w9 := hB5.below (show Below _ _ w9 by (repeat first|exact J0|assumption|(apply J1;assumption)|apply J2|apply J3|apply J4))
            have fhB5_w9 := hB5_w9.facts
            obtain ⟨A9, c9, rfl⟩ := hO9.shape
            refine wpMid_nil ?_
            go_wp2_with (first | (go_at_call 59; refine (hoR _ hlok hrok hwd' (by (repeat first|exact J0|assumption|(apply J1;assumption)|apply J2|apply J3|apply J4))).mono ?_; rintro e w10 ⟨v10, rfl, hO10, hb10⟩; obtain ⟨A10, c10, rfl⟩ := hO10.shape) | (at_builtin; refine wpList_appKS (Own.empty kc 2 w10 _) (((hO9.below hb10).rd kc_len).alloc _) rfl _ _ rfl rfl rfl (by simp; omega) (by simp) ?_; intro v11 w11 hO11 hgr11; have hb11 : Below w10.heap.size w10 w11 := bl_grown hgr11 (bl_alloc bl_refl _) fun k hk => by simp [Value.ownBlock] at hk; omega) | (at_builtin; refine wpList_appKS hO11 ((hO10.rd kc_len).below hb11) rfl _ _ rfl rfl rfl (by simp; omega) hb11.size ?_; intro v12 w12 hO12 hgr12; have hb12 := own_step hO11 hgr12 hb11))
            simp only [List.nil_append] at hO12
            obtain ⟨A12, c12, rfl, _, _, hr12⟩ := hO12.rd kc_len
            have hAl : ∀ k ∈ OL ++ OR, -4096 ≤ k.1 ∧ k.1 ≤ 4096 := fun k hk => by
              rcases List.mem_append.1 hk with h | h
              · exact nL k h
              · exact nR k h
            have sL := (((hO9.below hb10).rd kc_len).below hb12)
            have sR := ((hO10.rd kc_len).below hb12)
            have hbw12 : Below w.heap.size w w12 := by (repeat first|exact J0|assumption|(apply J1;assumption)|apply J2|apply J3|apply J4)
            have hall : (OL ++ OR).length ≤ 1026 := by simp; omega
            obtain ⟨AL2, hAL2⟩ : ∃ z, OL ++ OR = z := ⟨_, rfl⟩
            rw [hAL2] at hr12 hAl hall ⊢
            clear hAL2 hO9 hO10 hO11 hO12 hgr11 hgr12 hb9 hb10 hb11 hb12 hbw8 hoL hoR
            go_loopw [8] (fun i wr => ∃ k : Nat, k ≤ AL2.length ∧ i = .int .i64 k ∧ Below w12.heap.size w12 wr) (fun i _ => AL2.length - (intOf i).toNat)
            case atStart => exact ⟨0, Nat.zero_le _, rfl, bl_refl⟩
            case round =>
              obtain ⟨k, hk, rfl, hbr⟩ := hrel
              obtain ⟨wo, rfl⟩ : ∃ x, x = wr := ⟨_, rfl⟩
              by_cases hlt : k < AL2.length
              · obtain ⟨b, off, rfl, hb, e0, e1⟩ := (hr12.below hbr).knot hlt
                have hx := hAl _ (List.getElem_mem hlt)
                obtain ⟨⟨X, Y⟩, hX⟩ : ∃ z, AL2[k] = z := ⟨_, rfl⟩
                rw [hX] at e0 e1 hx
                simp only at e0 e1 hx
                have r1 : (X < -4096) = False := eq_false (by omega)
                have r2 : (4096 < X) = False := eq_false (by omega)
                clear hX hx
                go_wp2
                go_roundw
                case rel => exact ⟨k + 1, by omega, by go_num, hbr⟩
                case measure => simp [intOf]; omega
              · obtain rfl : k = AL2.length := by omega
                go_wp2_with fail
                refine (rcrosses_any OL OR n _ (sL.below hbr) (sR.below hbr) (fun k hk => by have := nL k hk; omega) (fun k hk => by have := nR k hk; omega) (by omega) (by omega) (by omega)).mono ?_
                rintro e w14 ⟨rfl, hb14⟩
                obtain ⟨cb, hcb⟩ : ∃ z, crossB OL OR (n + 1) = z := ⟨_, rfl⟩
                rw [hcb] at HT ⊢
                cases cb
                all_goals
                  go_wp2
                  go_ret
                  exact ⟨by rw [HT.out]; rfl, by (repeat first|exact J0|assumption|(apply J1;assumption)|apply J2|apply J3|apply J4)⟩
      · have s1 : (H != RR) = true := by simpa using c1
        have HT : Hid (E = 2) := by
          have : E1 = 2 := by rw [hP1, decide_eq_true c1]; rfl
          unfold Hid; rw [HY2.out, this]; rfl
        clear hP1 HY2 c1
        go_wp2
        go_ret
        exact ⟨by rw [HT.out]; rfl, hbw8⟩
    · have t5 : (E2 != 0) = true := by simpa using hz
      have HT : Hid (E = E2) := by unfold Hid; rw [HY.out, if_pos hz]
      go_wp2
      go_ret
      exact ⟨by rw [HT.out]; rfl, hbw5⟩
end Go.Proofs.YtkkefahobjlagaaGreatDoor

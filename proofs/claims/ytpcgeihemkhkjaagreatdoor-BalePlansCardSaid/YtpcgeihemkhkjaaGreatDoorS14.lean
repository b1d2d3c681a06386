/- The reference: reach, crossing outlines, walked; errors of panels, plain. Conditions: bounds. -/
import Derived.Test.YtpcgeihemkhkjaaGreatDoorS13
import Derived.Test.YtpcgeihemkhkjaaGreatDoorS11
import Derived.Test.YtpcgeihemkhkjaaGreatDoorS05
import Derived.Test.YtpcgeihemkhkjaaGreatDoorS09
import Derived.Lib.SliceRun
import Derived.Deep.CutRange
import Derived.Test.YtpcgeihemkhkjaaGreatDoorS12
namespace Go.Proofs.YtpcgeihemkhkjaaGreatDoor
open Go.RowKit Go.ChangeMaps
set_option maxHeartbeats 4000000
set_option maxRecDepth 100000
attribute [local go_sem] Oper.semAt_some
def Zcs (l : List Knot) (row : Int) (k : Nat) : Bool := decide ((l.getD k (0, 0)).2 = row) || (decide (0 < k) && (decide ((l.getD (k - 1) (0, 0)).2 < row) && decide (row < (l.getD k (0, 0)).2)))
theorem Zct {l : List Knot} {k : Nat} (hk : k < l.length) (row : Int) : rchI (l.take (k + 1)) row = if Zcs l row k then Z6o (rchI (l.take k) row) (l.getD k (0, 0)).1 else rchI (l.take k) row := by
 have g : ∀ i (h : i < l.length), l.getD i (0, 0) = l[i] := fun i h => by rw [List.getD_eq_getElem?_getD, List.getElem?_eq_getElem h]; rfl
 cases k with
 | zero =>
  unfold Zcs; rw [g 0 hk]; rw [List.take_succ_eq_append_getElem hk]; simp only [List.take_zero, List.nil_append]; show Z6p row l[0].2 [l[0]] Z6q = _
  rw [Z6p, Z6p]
  have : hitR row l[0].2 l[0] = (decide (l[0].2 = row) || (decide ((0 : Nat) < 0) && (decide ((l.getD (0 - 1) (0, 0)).2 < row) && decide (row < l[0].2)))) := by
   unfold hitR; rw [Bool.eq_iff_iff]; simp
   omega
  rw [this]; rfl
 | succ j =>
  have hj : j < l.length := by omega
  have e1 : l.take (j + 1) = l.take j ++ [l[j]] := List.take_succ_eq_append_getElem hj
  have e2 : l.take (j + 1 + 1) = l.take j ++ [l[j], l[j + 1]] := Z7d hk
  rw [e2, Z6u, ← e1]; unfold Zcs; rw [g (j + 1) hk, show j + 1 - 1 = j from rfl, g j hj]
  have : hitR row l[j].2 l[j + 1] = (decide (l[j + 1].2 = row) || (decide (0 < j + 1) && (decide (l[j].2 < row) && decide (row < l[j + 1].2)))) := by
   unfold hitR; rw [Bool.eq_iff_iff]; simp
  rw [this]
theorem Zcu {l : List Knot} (h : ∀ k ∈ l, -100000 ≤ k.1 ∧ k.1 ≤ 100000) (row : Int) : ∀ k : Nat, k ≤ l.length → (-100000 ≤ (rchI (l.take k) row).1 ∧ (rchI (l.take k) row).1 ≤ 999999999) ∧ (-999999999 ≤ (rchI (l.take k) row).2 ∧ (rchI (l.take k) row).2 ≤ 100000)
 | 0, _ => by simp [rchI, Z6q]
 | k + 1, hk => by
  have ih := Zcu h row k (by omega)
  have hx := h _ (List.getElem_mem (show k < l.length by omega))
  rw [Zct (by omega)]
  have g : l.getD k (0, 0) = l[k] := by rw [List.getD_eq_getElem?_getD, List.getElem?_eq_getElem (by omega)]; rfl
  rw [g]; split
  ·unfold Z6o
   simp only
   omega
  ·exact ih
theorem Zcv {v : Value} (l : List Knot) (row : Int) (w : World) (h : SlK w v l) (hlen : l.length ≤ 100000) :
  Calls Tryz.prog 195 #[v, .int .i64 row] w (RV w (.agg #[.int .i64 (rchI l row).1, .int .i64 (rchI l row).2])) := by
 obtain ⟨A, c, rfl, hlc, hcm, hr⟩ := h
 have hN := Blk.new w 119 #[.int .i64 0, .int .i64 0]
 have hb1 : Below w.heap.size w (w.alloc (.cells #[.int .i64 0, .int .i64 0] 119)) := Z04 Z03 _
 go_enter Tryz.func195, Tryz.ntmps195
 go_wp2
 obtain ⟨w1, hw1⟩ : ∃ X, w.alloc (.cells #[.int .i64 0, .int .i64 0] 119) = X := ⟨_, rfl⟩
 rw [hw1] at hN hb1 ⊢
 clear hw1
 go_loopw [5, 6, 7] (fun a b i wr => ∃ (k : Nat) (x y : Int), k ≤ l.length ∧ i = .int .i64 k ∧ a = .int .i64 x ∧ b = .int .i64 y ∧ Hid (rchI (l.take k) row = (x, y)) ∧ Below w1.heap.size w1 wr) (fun _ _ i _ => l.length - (intOf i).toNat)
 case atStart => exact ⟨0, 999999999, -999999999, Nat.zero_le _, rfl, rfl, rfl, rfl, by (repeat first|exact J0|assumption|(apply J1;assumption)|apply J2|apply J3|apply J4)⟩
 case round =>
  obtain ⟨k, x, y, hk, rfl, rfl, rfl, H, hbw⟩ := hrel; obtain ⟨wo, rfl⟩ : ∃ x, x = wr := ⟨_, rfl⟩
  by_cases hlt : k < l.length
  ·obtain ⟨b, off, rfl, hb, e0, e1⟩ := ((hr.below hb1).below hbw).knot hlt
   have HA := Lib.hid (Zct hlt row)
   have gk : l.getD k (0, 0) = l[k] := by rw [List.getD_eq_getElem?_getD, List.getElem?_eq_getElem hlt]; rfl
   have HB : Hid (Zcs l row k = (decide (l[k].2 = row) || (decide (0 < k) && (decide ((l.getD (k - 1) (0, 0)).2 < row) && decide (row < l[k].2))))) := by unfold Hid Zcs; rw [gk]
   rw [gk] at HA; clear gk; obtain ⟨⟨X, Y⟩, hX⟩ : ∃ z, l[k] = z := ⟨_, rfl⟩
   rw [hX] at e0 e1 HA HB; simp only at e0 e1
   have HHit : Hid (Zcs l row k = true → rchI (l.take (k + 1)) row = (min x X, max y X)) := fun hq => by rw [HA.out, if_pos hq, H.out]; rfl
   have HMis : Hid (Zcs l row k = false → rchI (l.take (k + 1)) row = (x, y)) := fun hq => by rw [HA.out, if_neg (by rw [hq]; simp), H.out]
   clear hX HA; by_cases h1 : Y = row
   ·have HN : Hid (rchI (l.take (k + 1)) row = (min x X, max y X)) := HHit.out (by rw [HB.out]; simp [h1])
    subst h1; clear HHit HMis; go_upto_region 6 with fail; refine Z0z [0, 1, 2, 3, 4, 5, 6, 7, 8, 9, 10, 11, 12, 13, 14, 15] [] [] (by kernel_rfl) (by kernel_rfl) (fun d _ _ _ _ h => by cases d <;> exact h) ?_
    simp only [List.map_cons, List.map_nil, List.getD_cons_zero, List.getD_cons_succ]; repeat (go_big_quiet_step (fail))
    refine wpQuiet_nil ?_; refine Z10 ?_; go_wp2; go_roundw; case rel => exact ⟨k + 1, _, _, by omega, by go_num, rfl, rfl, HN.out, by (repeat first|exact J0|assumption|(apply J1;assumption)|apply J2|apply J3|apply J4)⟩
    case measure => simp [intOf]; omega
   ·have t1 : (Y == row) = false := beq_false_of_ne h1
    by_cases h0 : k = 0
    ·have HN : Hid (rchI (l.take (k + 1)) row = (x, y)) := HMis.out (by rw [HB.out]; simp [h1, h0])
     subst h0; clear HHit HMis; go_wp2; go_roundw; case rel => exact ⟨0 + 1, _, _, by omega, by go_num, rfl, rfl, HN.out, hbw⟩
     case measure => simp [intOf]; omega
    ·have t0 : (0 < (k : Int)) = True := eq_true (by omega)
     obtain ⟨j, rfl⟩ : ∃ j, k = j + 1 := ⟨k - 1, by omega⟩
     have hj : j < l.length := by omega
     have gj : l.getD (j + 1 - 1) (0, 0) = l[j] := by rw [List.getD_eq_getElem?_getD, show j + 1 - 1 = j from rfl, List.getElem?_eq_getElem hj]; rfl
     obtain ⟨b', off', hA2, _, p0, p1⟩ := ((hr.below hb1).below hbw).knot hj
     obtain ⟨rfl, rfl⟩ : b = b' ∧ off = off' := by simpa using hA2
     rw [gj] at HB; clear gj hA2; obtain ⟨⟨PX, PY⟩, hPX⟩ : ∃ z, l[j] = z := ⟨_, rfl⟩
     rw [hPX] at p0 p1 HB; simp only at p0 p1
     have e3 : (((j + 1 : Nat) : Int) - 1) = (j : Int) := by omega
     clear hPX; by_cases h2 : PY < row
     ·have t2 : (PY < row) = True := eq_true h2
      by_cases h3 : row < Y
      ·have t3 : (row < Y) = True := eq_true h3
       have HN : Hid (rchI (l.take (j + 1 + 1)) row = (min x X, max y X)) := HHit.out (by rw [HB.out]; simp [h2, h3])
       clear HHit HMis h2 h3; go_upto_region 6 with fail; refine Z0z [0, 1, 2, 3, 4, 5, 6, 7, 8, 9, 10, 11, 12, 13, 14, 15] [] [] (by kernel_rfl) (by kernel_rfl) (fun d _ _ _ _ h => by cases d <;> exact h) ?_
       simp only [List.map_cons, List.map_nil, List.getD_cons_zero, List.getD_cons_succ]; repeat (go_big_quiet_step (fail))
       refine wpQuiet_nil ?_; refine Z10 ?_; go_wp2; go_roundw; case rel => exact ⟨j + 1 + 1, _, _, by omega, by go_num, rfl, rfl, HN.out, by (repeat first|exact J0|assumption|(apply J1;assumption)|apply J2|apply J3|apply J4)⟩
       case measure => simp [intOf]; omega
      ·have t3 : (row < Y) = False := eq_false h3
       have HN : Hid (rchI (l.take (j + 1 + 1)) row = (x, y)) := HMis.out (by rw [HB.out]; simp [h1, h3])
       clear HHit HMis h2 h3; go_wp2; go_roundw; case rel => exact ⟨j + 1 + 1, _, _, by omega, by go_num, rfl, rfl, HN.out, hbw⟩
       case measure => simp [intOf]; omega
     ·have t2 : (PY < row) = False := eq_false h2
      have HN : Hid (rchI (l.take (j + 1 + 1)) row = (x, y)) := HMis.out (by rw [HB.out]; simp [h1, h2])
      clear HHit HMis h2; go_wp2; go_roundw; case rel => exact ⟨j + 1 + 1, _, _, by omega, by go_num, rfl, rfl, HN.out, hbw⟩
      case measure => simp [intOf]; omega
  ·obtain rfl : k = l.length := by omega
   have HT : Hid (rchI l row = (x, y)) := by have := H.out; rwa [List.take_length] at this
   have hN2 := hN.below hbw
   go_wp2_with (refine Z4n hN2 rfl _ _ _ rfl rfl rfl (by rfl) (by kernel_rfl) (by kernel_rfl) ?_; intro w3 hN3 hc3; have fN3 := hN3.facts)
   have hb3 : Below w.heap.size w w3 := Z9f (Z08 hbw hb1) hc3 (Nat.le_refl _)
   refine bodyPost_ret (v := .agg #[.int .i64 x, .int .i64 y]) (by simp [results, Tryz.results195, go_sem, fN3]) rfl ?_
   exact ⟨by rw [HT.out], hb3⟩
theorem Zcw (L R : List Knot) (n : Nat) : Z73 L R (n + 1) = (Z73 L R n || decide ((rchI R (n : Nat)).1 < (rchI L (n : Nat)).2 + 2)) := by
 unfold Z73
 rw [List.range_succ, List.any_append]
 simp
theorem Zcx (L R : List Knot) {n k : Nat} (hk : k < n) (h : (rchI R (k : Nat)).1 < (rchI L (k : Nat)).2 + 2) : Z73 L R n = true := by
 unfold Z73
 rw [List.any_eq_true]
 exact ⟨k, List.mem_range.2 hk, decide_eq_true h⟩
@[go_sem] theorem idxP_0 (a b : Int) (w : World) : (Instr.index 119 (.agg #[.int .i64 a, .int .i64 b]) (.int .i64 0)).run Tryz.prog w = .ok (.int .i64 a) w := by kernel_rfl
@[go_sem] theorem idxP_1 (a b : Int) (w : World) : (Instr.index 119 (.agg #[.int .i64 a, .int .i64 b]) (.int .i64 1)).run Tryz.prog w = .ok (.int .i64 b) w := by kernel_rfl
theorem Zcy {vL vR : Value} (L R : List Knot) (n : Nat) (w : World) (hL : SlK w vL L) (hR : SlK w vR R) (h1 : ∀ k ∈ L, -100000 ≤ k.1 ∧ k.1 ≤ 100000) (h2 : ∀ k ∈ R, -100000 ≤ k.1 ∧ k.1 ≤ 100000) (hl : L.length ≤ 100000) (hr : R.length ≤ 100000) (hn : n ≤ 1000) :
  Calls Tryz.prog 139 #[vL, vR, .int .i64 n] w (RV w (.bool (Z73 L R (n + 1)))) := by
 have hcL := fun (row : Int) W (hb : Below w.heap.size w W) => Zcv L row W (hL.below hb) hl
 have hcR := fun (row : Int) W (hb : Below w.heap.size w W) => Zcv R row W (hR.below hb) hr
 have nL := fun (row : Int) => Zcu h1 row L.length (Nat.le_refl _)
 have nR := fun (row : Int) => Zcu h2 row R.length (Nat.le_refl _)
 simp only [List.take_length] at nL nR
 clear hL hR h1 h2 hl hr
 go_enter Tryz.func139, Tryz.ntmps139
 go_wp2
 go_loopw [7] (fun i wr => ∃ k : Nat, k ≤ n + 1 ∧ i = .int .i64 k ∧ Hid (Z73 L R k = false) ∧ Below w.heap.size w wr) (fun i _ => n + 1 - (intOf i).toNat)
 case atStart => exact ⟨0, Nat.zero_le _, rfl, rfl, by (repeat first|exact J0|assumption|(apply J1;assumption)|apply J2|apply J3|apply J4)⟩
 case round =>
  obtain ⟨k, hk, rfl, H, hbw⟩ := hrel; obtain ⟨wo, rfl⟩ : ∃ x, x = wr := ⟨_, rfl⟩
  by_cases hlt : k ≤ n
  ·have HS := Lib.hid (Zcw L R k)
   have HI := Lib.hid (fun h => Zcx L R (n := n + 1) (k := k) (by omega) h)
   have cL := hcL k
   have cR := hcR k
   have bL := nL k
   have bR := nR k
   obtain ⟨⟨a, b⟩, ha⟩ : ∃ z, rchI L (k : Nat) = z := ⟨_, rfl⟩
   obtain ⟨⟨c, d⟩, hc⟩ : ∃ z, rchI R (k : Nat) = z := ⟨_, rfl⟩
   rw [ha] at HS HI cL bL; rw [hc] at HS HI cR bR; simp only at cL cR bL bR
   clear ha hc nL nR hcL hcR; go_wp2_with fail; refine (cR _ (by (repeat first|exact J0|assumption|(apply J1;assumption)|apply J2|apply J3|apply J4))).mono ?_
   rintro e w2 ⟨rfl, hb2⟩; go_wp2_with fail; refine (cL _ (by (repeat first|exact J0|assumption|(apply J1;assumption)|apply J2|apply J3|apply J4))).mono ?_
   rintro e w3 ⟨rfl, hb3⟩; by_cases h : c < b + 2
   ·have HT : Hid (Z73 L R (n + 1) = true) := HI.out h
    have t1 : (c - b < 2) = True := eq_true (by omega)
    clear h cL cR; go_wp2; go_ret; exact ⟨by rw [HT.out]; rfl, by (repeat first|exact J0|assumption|(apply J1;assumption)|apply J2|apply J3|apply J4)⟩
   ·have HT : Hid (Z73 L R (k + 1) = false) := by unfold Hid; rw [HS.out, H.out, decide_eq_false h]; rfl
    have t1 : (c - b < 2) = False := eq_false (by omega)
    clear h cL cR; go_wp2; go_roundw; case rel => exact ⟨k + 1, by omega, by go_num, HT.out, by (repeat first|exact J0|assumption|(apply J1;assumption)|apply J2|apply J3|apply J4)⟩
    case measure => simp [intOf]; omega
  ·obtain rfl : k = n + 1 := by omega
   go_wp2; go_ret; exact ⟨by rw [H.out]; rfl, hbw⟩
theorem Zcz (p : Pan) (right : Bool) (hw : 1 ≤ p.2.1 ∧ p.2.1 ≤ 128) (hs : (stpL (Z33 p right)).length ≤ 512) : ∀ k ∈ outP p right, -4096 ≤ k.1 ∧ k.1 ≤ 4096 := by
 intro k hk
 obtain ⟨i, hi, rfl⟩ := List.getElem_of_mem hk
 unfold outP at hi ⊢
 rw [Z2r]
 have h0 : -256 ≤ (Z34 p right).1 ∧ (Z34 p right).1 ≤ 256 ∧ 0 ≤ (Z34 p right).2 ∧ (Z34 p right).2 ≤ 256 := by
  unfold Z34; split <;> simp only <;> omega
 have := Z2u (right := right) (n := 256) ((stpL (Z33 p right)).take i) h0
 have hl : (((stpL (Z33 p right)).take i).length : Int) ≤ 512 := by simp; omega
 omega
def Zd0 (p : Pan) : Int := Z17 [Z16 p.2.1 1 128, Z38 p.2.2.1, Z38 p.2.2.2]
theorem Zd1 {p : Pan} (h : Z6k p.1 = true) : panE p = if Zd0 p ≠ 0 then Zd0 p else if Z75 p ≠ 0 then Z75 p else Z15 (Z73 (outP p false) (outP p true) ((Z35 p).toNat + 1)) 16 := by
 have : Z74 p = Zd0 p := by
  unfold Z74 Zd0; rw [h]; simp [Z15, Z17]
 unfold panE
 rw [this]
theorem Zd2 {p : Pan} (h : Z6k p.1 = false) : panE p = 8 := by
 have : Z74 p = 8 := by
  unfold Z74; rw [h]; simp [Z15, Z17]
 unfold panE
 rw [this]
 rfl
theorem Zd3 {p : Pan} (h : Z6k p.1 = true) (h2 : Zd0 p = 0) : (1 ≤ p.2.1 ∧ p.2.1 ≤ 128) ∧ Z3b p.2.2.1 ∧ Z3b p.2.2.2 := by
 have : Z74 p = 0 := by
  unfold Z74; rw [h]; unfold Zd0 at h2; simpa [Z15, Z17] using h2
 exact (Zau this).2
end Go.Proofs.YtpcgeihemkhkjaaGreatDoor
namespace Go.Proofs.YtpcgeihemkhkjaaGreatDoor
open Go.RowKit Go.ChangeMaps
set_option maxHeartbeats 4000000
set_option maxRecDepth 100000
theorem Zd4 {α : Type} [DecidableEq α] {l D : List α} (hn : l.Nodup) (hs : ∀ x ∈ l, x ∈ D) : l.length ≤ D.length := by
 induction l generalizing D with
 | nil => simp
 | cons a r ih =>
  obtain ⟨h1, h2⟩ := List.nodup_cons.1 hn
  have ha : a ∈ D := hs a (by simp)
  have := ih (D := D.erase a) h2 fun x hx => (List.mem_erase_of_ne (fun e => h1 (by rw [← e]; exact hx))).2 (hs x (by simp [hx]))
  rw [List.length_erase_of_mem ha] at this; have hp : 0 < D.length := List.length_pos_of_mem ha
  simp only [List.length_cons]; omega
abbrev SlV := Option Addr × Nat × Nat
def slV (t : SlV) : Value := .slice t.1 t.2.1 t.2.2
def rc (t : SlV) : List Value := [slV t]
theorem Zd5 (t : SlV) : (rc t).length = 1 := rfl
theorem Zd6 (t : SlV) : ∀ u ∈ rc t, u.oneCell' = true := by intro u hu; simp [rc] at hu; subst hu; rfl
theorem Zd7 : Elem Tryz.prog 51 65 1 24 := ⟨by kernel_rfl, by kernel_rfl, by decide⟩
abbrev OwV (base : Nat) := Own rc 1 base 65
def Zd8 (base : Nat) (w : World) : List SlV → List (List Bar) → Prop
 | [], [] => True
 | t :: ts, L :: Ls => OwB base w (slV t) L ∧ Zd8 base w ts Ls
 | _, _ => False
theorem Zd8.len {base : Nat} {w : World} : ∀ {ts : List SlV} {Ls : List (List Bar)}, Zd8 base w ts Ls → ts.length = Ls.length
 | [], [], _ => rfl
 | _ :: _, _ :: _, h => by simp [Zd8.len h.2]
 | [], _ :: _, h => h.elim
 | _ :: _, [], h => h.elim
theorem Zd8.map_ {base base' : Nat} {w w' : World} (hm : ∀ v L, OwB base w v L → OwB base' w' v L) : ∀ {ts : List SlV} {Ls : List (List Bar)}, Zd8 base w ts Ls → Zd8 base' w' ts Ls
 | [], [], _ => trivial
 | _ :: _, _ :: _, h => ⟨hm _ _ h.1, h.2.map_ hm⟩
 | [], _ :: _, h => h.elim
 | _ :: _, [], h => h.elim
theorem Zd8.snoc {base : Nat} {w : World} {t : SlV} {L : List Bar} (ht : OwB base w (slV t) L) : ∀ {ts : List SlV} {Ls : List (List Bar)}, Zd8 base w ts Ls → Zd8 base w (ts ++ [t]) (Ls ++ [L])
 | [], [], _ => ⟨ht, trivial⟩
 | _ :: _, _ :: _, h => ⟨h.1, h.2.snoc ht⟩
 | [], _ :: _, h => h.elim
 | _ :: _, [], h => h.elim
theorem Zd8.get {base : Nat} {w : World} : ∀ {ts : List SlV} {Ls : List (List Bar)} {i : Nat}, Zd8 base w ts Ls → (hi : i < ts.length) → (hj : i < Ls.length) → OwB base w (slV ts[i]) Ls[i]
 | _ :: _, _ :: _, 0, h, _, _ => h.1
 | _ :: _, _ :: _, i + 1, h, hi, hj => by
  simp only [List.getElem_cons_succ]; exact h.2.get _ _
 | [], _, _, _, hi, _ => by simp at hi
 | _ :: _, [], _, h, _, _ => h.elim
def OwRR (base : Nat) (w : World) (v : Value) (Ls : List (List Bar)) : Prop := ∃ ts, OwV base w v ts ∧ Zd8 base w ts Ls
theorem Sl.one_row (w : World) (t : SlV) (g : Nat) (hg : w.heap.size = g) : Sl rc 1 (w.alloc (.cells #[slV t] 65)) (.slice (some ⟨g, 0, none⟩) 1 1) [t] := by
 subst hg
 have hB := Blk.new w 65 #[slV t]
 refine ⟨_, 1, rfl, by simp, by simp [maxLen], fun i b hb => ?_⟩
 match i, hb with
 | 0, hb =>
  obtain rfl : t = b := by simpa using hb
  refine ⟨_, 0, rfl, hB.lt, fun j u hj => ?_⟩
  rw [hB.cell]; simpa [rc] using hj
section
variable {ops : Array Oper} {rest : List Oper} {o : Oper} {a : Act} {Q : Exit → Act → World → Prop} {base : Nat} {W : World} {v : Value} {A : Option Addr} {n c : Nat}
theorem Zd9 {l : List SlV} (hown : OwV base W v l) {g : Nat} (hgd : o.guard = none) (s x : Operand) (ho : o.op = .call { callee := .builtin .append, args := #[s, x], argTypes := #[51, 51] })
    (hs : a.eval s = v) (hx : a.eval x = .slice (some ⟨g, 0, none⟩) 1 1) (hg : W.heap.size = g) (hlen : l.length ≤ 1000000) (hbase : base ≤ W.heap.size)
    (h : ∀ v' w', OwV base w' v' (l ++ [(A, n, c)]) → (W.alloc (.cells #[.slice A n c] 65)).grownBy w' v.ownBlock → wpList Tryz.prog ops Q rest (a.put o.dst v') w') :
    wpList Tryz.prog ops Q (o :: rest) a (W.alloc (.cells #[.slice A n c] 65)) :=
  Z3y hgd Zd7 Zd5 Zd6 s x ho base v _ l [(A, n, c)] hs hx (hown.alloc _) (Sl.one_row W (A, n, c) g hg) (by simp [maxLen]; omega) (by simp; omega) (by simp; omega) h
end
def Tch (a b : Bar) : Prop := lowK a = lowK b ∨ lowK a = uppK b ∨ uppK a = lowK b ∨ uppK a = uppK b
instance (a b : Bar) : Decidable (Tch a b) := inferInstanceAs (Decidable (_ ∨ _))
inductive Conn (l : List Bar) (a : Bar) : Bar → Prop
 | refl : Conn l a a
 | step {b c : Bar} : Conn l a b → c ∈ l → Tch b c → Conn l a c
noncomputable instance (l : List Bar) (a x : Bar) : Decidable (Conn l a x) := Classical.propDecidable _
theorem Zda (x y s : Int) : Z17 [Z19 x y, Z19 (x + s) (y + 1)] = if inB (x, y, s) then 0 else 3 := by
 rw [Z1o, Z1o]
 unfold inB
 simp only
 cases farB x <;> cases farB y <;> cases farB (x + s) <;> cases farB (y + 1) <;> rfl
def shE (d : Knot) (l : List Bar) : Int := if Z5r (l.map (shB d)) then 0 else 3
def shL (d : Knot) (l : List Bar) : List Bar := if Z5r (l.map (shB d)) then l.map (shB d) else []
theorem Zdb {l : List Bar} {f : Bar → Bar} {k : Nat} (hk : k < l.length) (h : inB (f l[k]) = false) : Z5r (l.map f) = false := by
 unfold Z5r
 rw [List.all_eq_false]
 exact ⟨f l[k], List.mem_map_of_mem (List.getElem_mem hk), by rw [h]; simp⟩
theorem Zdc {v : Value} (l : List Bar) (dx dy : Int) (w : World) (h : SlB w v l) (hk : ∀ b ∈ l, Z4o b) (hlen : l.length ≤ 10000) (hdx : -500000 ≤ dx ∧ dx ≤ 500000) (hdy : -500000 ≤ dy ∧ dy ≤ 500000) :
    Calls Tryz.prog 136 #[v, .agg #[.int .i64 dx, .int .i64 dy]] w (RBE w (shL (dx, dy) l) (shE (dx, dy) l)) := by
  obtain ⟨A, c, rfl, hlc, hcm, h⟩ := h; have HK := Lib.hid hk
  have hB := Blk.new w 90 #[.int .i64 dx, .int .i64 dy]
  clear hk; go_enter Tryz.func136, Tryz.ntmps136
  go_wp2; go_loopw [6, 13] (fun o i wr => ∃ k : Nat, k ≤ l.length ∧ i = .int .i64 k ∧ Hid (Z5r ((l.take k).map (shB (dx, dy))) = true) ∧ OwB w.heap.size wr o ((l.take k).map (shB (dx, dy))) ∧ Blk wr w.heap.size 90 #[.int .i64 dx, .int .i64 dy] ∧ Below w.heap.size w wr) (fun _ i _ => l.length - (intOf i).toNat)
  case atStart => exact ⟨0, Nat.zero_le _, rfl, rfl, Own.nil_, hB, by (repeat first|exact J0|assumption|(apply J1;assumption)|apply J2|apply J3|apply J4)⟩
  case round =>
    clear hB; obtain ⟨k, hk, rfl, HQ, hO, hBr, hbw⟩ := hrel; obtain ⟨wo, rfl⟩ : ∃ x, x = wr := ⟨_, rfl⟩
    by_cases hlt : k < l.length
    · have hr := h.below hbw
      obtain ⟨b, off, rfl, hb, e0, e1, e2⟩ := hr.bar hlt
      have hbo := HK.out _ (List.getElem_mem hlt)
      have HD := Lib.hid (Z5q (shB (dx, dy)) hlt)
      have HA := Lib.hid (Z5s (f := shB (dx, dy)) hlt)
      have HN := Lib.hid (@Zdb l (shB (dx, dy)) k hlt)
      have fB := hBr.facts
      obtain ⟨⟨x, y, s⟩, hx⟩ : ∃ z, l[k] = z := ⟨_, rfl⟩
      rw [hx] at e0 e1 e2 hbo HD HA HN; simp only at e0 e1 e2
      clear hx; obtain ⟨q1, q2, q3⟩ := hbo; simp only at q1 q2 q3
      have hll : ((l.take k).map (shB (dx, dy))).length ≤ 10000 := by simp; omega
      obtain ⟨x1, hx1⟩ : ∃ x1, x + dx = x1 := ⟨_, rfl⟩
      obtain ⟨y1, hy1⟩ : ∃ y1, y + dy = y1 := ⟨_, rfl⟩
      have m1 : IntKind.i64.wrap (x + dx) = x1 := by rw [IntWalk.i64_in _ (by omega)]; omega
      have m2 : IntKind.i64.wrap (y + dy) = y1 := by rw [IntWalk.i64_in _ (by omega)]; omega
      have r1 : -1000000 ≤ x1 ∧ x1 ≤ 1000000 := by omega
      have r2 : -1000000 ≤ y1 ∧ y1 ≤ 1000000 := by omega
      have HS : Hid (shB (dx, dy) (x, y, s) = (x1, y1, s)) := by unfold Hid shB; rw [← hx1, ← hy1]
      clear hx1 hy1; rw [HS.out] at HD HA HN; have hN0 := Blk.new wo 111 #[.int .i64 x, .int .i64 y, .int .i64 s]
      have hBa := hBr.alloc (.cells #[.int .i64 x, .int .i64 y, .int .i64 s] 111)
      have hOa := hO.alloc (.cells #[.int .i64 x, .int .i64 y, .int .i64 s] 111)
      go_upto_region 5 with fail; obtain ⟨w1, hw1⟩ : ∃ X, wo.alloc (.cells #[.int .i64 x, .int .i64 y, .int .i64 s] 111) = X := ⟨_, rfl⟩
      have hb1 : Below wo.heap.size wo w1 := by rw [← hw1]; exact Z04 Z03 _
      rw [hw1] at hN0 hBa hOa ⊢; have fN := hN0.facts
      have fBa := hBa.facts
      clear hw1 e0 e1 e2 hr fB hOa; go_region
      go_upto_region 6 with fail; obtain ⟨w2, hw2⟩ : ∃ X, ((w1.setCell ⟨wo.heap.size, 0, none⟩ (.int .i64 x1)).setCell ⟨wo.heap.size, 1, none⟩ (.int .i64 y1)).drew = X := ⟨_, rfl⟩
      have hN2 : Blk w2 wo.heap.size 111 #[.int .i64 x1, .int .i64 y1, .int .i64 s] := by
        rw [← hw2]; exact ((hN0.set_ 0 (.int .i64 x1)).set_ 1 (.int .i64 y1)).drew
      have hb2 : Below wo.heap.size wo w2 := by
        rw [← hw2]; exact Z05 (Z07 (Z07 hb1 (Nat.le_refl _) _) (Nat.le_refl _) _)
      have hB2 := hBr.below hb2
      have hO2 := hO.below hb2
      have hbw2 := Z08 hb2 hbw
      have fN2 := hN2.facts
      rw [hw2]; clear hw2 fN fBa hN0 hBa hb1; go_wp2_with fail; refine (Z27 x1 y1 s (by omega) (by omega) (by omega) _).mono ?_
      rintro e w3 ⟨rfl, hb3⟩; have hN3 := (hN2.below hb3).alloc (.cells #[.int .i64 x1, .int .i64 y1, .int .i64 (x1 + s), .int .i64 (y1 + 1)] 268)
      have hB3 := (hB2.below hb3).alloc (.cells #[.int .i64 x1, .int .i64 y1, .int .i64 (x1 + s), .int .i64 (y1 + 1)] 268)
      have hO3 := (hO2.below hb3).alloc (.cells #[.int .i64 x1, .int .i64 y1, .int .i64 (x1 + s), .int .i64 (y1 + 1)] 268)
      have hE3 := Blk.new w3 268 #[.int .i64 x1, .int .i64 y1, .int .i64 (x1 + s), .int .i64 (y1 + 1)]
      have hbw3 : Below w.heap.size w (w3.alloc (.cells #[.int .i64 x1, .int .i64 y1, .int .i64 (x1 + s), .int .i64 (y1 + 1)] 268)) := by (repeat first|exact J0|assumption|(apply J1;assumption)|apply J2|apply J3|apply J4)
      clear fN2 hN2 hB2 hO2 hO hBr; go_upto_region 7 with fail; obtain ⟨w4, hw4⟩ : ∃ X, w3.alloc (.cells #[.int .i64 x1, .int .i64 y1, .int .i64 (x1 + s), .int .i64 (y1 + 1)] 268) = X := ⟨_, rfl⟩
      rw [hw4] at hN3 hB3 hO3 hE3 hbw3 ⊢; have fE3 := hE3.facts
      clear hw4
      have hF : ∀ A c W, Rd ic 1 W A [Z19 x1 y1, Z19 (x1 + s) (y1 + 1)] → Calls Tryz.prog 99 #[.slice A 2 c] W (RV W (.int .i64 (if inB (x1, y1, s) then 0 else 3))) := fun A c W hr => by
        rw [← Zda]; exact Z1m [Z19 x1 y1, Z19 (x1 + s) (y1 + 1)] A c W (by simp [maxLen]) hr
      refine Z0z [0, 1, 3, 4] [(2, false)] [5, 6, 7, 8] (by kernel_rfl) (by kernel_rfl) (fun d _ _ _ _ h => by cases d <;> exact h) ?_
      simp only [List.map_cons, List.map_nil, List.getD_cons_zero, List.getD_cons_succ]; repeat (go_big_quiet_step (fail))
      refine wpQuiet_nil ?_; refine Z11 rfl (fun K hK => ?_); go_simp; refine (Z1n x1 y1 _).mono ?_
      rintro e w5 ⟨rfl, hb5⟩; refine hK _ _ (by (repeat first|exact J0|assumption|(apply J1;assumption)|apply J2|apply J3|apply J4)) ?_
      clear hK K; have hE3_w5 := hE3.below (show Below _ _ w5 by (repeat first|exact J0|assumption|(apply J1;assumption)|apply J2|apply J3|apply J4))
      have fhE3_w5 := hE3_w5.facts
      refine Z10 ?_; go_wp2_with fail; refine (Z1n (x1 + s) (y1 + 1) _).mono ?_
      rintro e w6 ⟨rfl, hb6⟩; go_wp2_with fail; go_must (refine (hF _ _ _ (Rd.ints2 (by simp) (by go_simp) (by go_simp))).mono ?_)
      rintro e w7 ⟨rfl, hb7⟩; have hb47 : Below w4.heap.size w4 w7 := by (repeat first|exact J0|assumption|(apply J1;assumption)|apply J2|apply J3|apply J4)
      have hN7 := hN3.below hb47
      have hB7 := hB3.below hb47
      have hO7 := hO3.below hb47
      have hbw7 := Z08 hb47 hbw3
      have fN7 := hN7.facts
      clear hF fE3; obtain ⟨q, hq⟩ : ∃ q, inB (x1, y1, s) = q := ⟨_, rfl⟩
      rw [hq] at HA HN ⊢; clear hq; cases q
      · have HL : Hid (shL (dx, dy) l = [] ∧ shE (dx, dy) l = 3) := by
          unfold Hid shL shE; rw [HN.out rfl]; exact ⟨rfl, rfl⟩
        simp only [Bool.false_eq_true, if_false]; go_wp2; go_ret2
        exact ⟨_, by rw [HL.out.2]; rfl, by rw [HL.out.1]; exact Own.nil_, hbw7⟩
      · simp only [if_true]
        go_wp2_with (at_builtin; refine Z5p hO7 rfl _ _ rfl rfl rfl (by simp) (by omega) hbw7.size ?_; intro v8 w8 hown8 hgr8)
        have hb8 := Z41 hO7 hgr8 (by (repeat first|exact J0|assumption|(apply J1;assumption)|apply J2|apply J3|apply J4))
        have hB8 := (hB7.alloc (.cells #[.int .i64 x1, .int .i64 y1, .int .i64 s] 111)).grown hgr8 (hO7.ne_blk hB7 (by decide))
        clear hgr8; go_wp2; go_roundw; case rel => exact ⟨k + 1, by omega, by go_num, by unfold Hid; rw [HA.out, HQ.out]; rfl, by rw [HD.out]; exact hown8, hB8, hb8⟩
        case measure => simp [intOf]; omega
    · have HE : Hid (l.map (shB (dx, dy)) = (l.take k).map (shB (dx, dy))) := by unfold Hid; rw [List.take_of_length_le (by omega)]
      have HL : Hid (shL (dx, dy) l = (l.take k).map (shB (dx, dy)) ∧ shE (dx, dy) l = 0) := by
        unfold Hid shL shE; rw [HE.out, if_pos HQ.out, if_pos HQ.out]; exact ⟨rfl, rfl⟩
      go_wp2; go_ret2
      exact ⟨_, by rw [HL.out.2]; rfl, by rw [HL.out.1]; exact hO, hbw⟩
def Zdd (l : List Bar) (x y : Int) : Int := if degE l x y = 0 then shE (x, y) l else degE l x y
def Zde (l : List Bar) (x y : Int) : List Bar := if degE l x y = 0 then shL (x, y) l else []
theorem Zdf {v : Value} (l : List Bar) (x y : Int) (w : World) (h : SlB w v l) : Calls Tryz.prog 73 #[v, .agg #[.int .i64 x, .int .i64 y]] w (RBE w (Zde l x y) (Zdd l x y)) := by
 have hB := Blk.new w 90 #[.int .i64 x, .int .i64 y]
 have h0 := h.alloc (.cells #[.int .i64 x, .int .i64 y] 90)
 have fB := hB.facts
 by_cases hE : degE l x y = 0
 ·obtain ⟨hz, hk⟩ := Z9l hE
  obtain ⟨z1, z2, z3, z4, _⟩ := Z22 hk
  have hok := Z4v hz
  have HZ := Lib.hid hz
  have HS : Hid (Zde l x y = shL (x, y) l ∧ Zdd l x y = shE (x, y) l) := by unfold Hid Zde Zdd; rw [if_pos hE, if_pos hE]; exact ⟨rfl, rfl⟩
  have hF : ∀ A c W, Rd ic 1 W A [netE l, Z1a x y] → Calls Tryz.prog 99 #[.slice A 2 c] W (RV W (.int .i64 0)) := fun A c W hr => by
   have := Z1m [netE l, Z1a x y] A c W (by simp [maxLen]) hr
   rwa [show Z17 [netE l, Z1a x y] = 0 from hE] at this
  clear hE hz hk; go_enter Tryz.func73, Tryz.ntmps73
  go_wp2; refine Z0z [0, 2] [(1, false)] [3, 4, 5, 6] (by kernel_rfl) (by kernel_rfl) (fun d _ _ _ _ h => by cases d <;> exact h) ?_
  simp only [List.map_cons, List.map_nil, List.getD_cons_zero, List.getD_cons_succ]; repeat (go_big_quiet_step (fail))
  refine wpQuiet_nil ?_; refine Z11 rfl (fun K hK => ?_); go_simp; refine (Z5v l _ (h0.below (by (repeat first|exact J0|assumption|(apply J1;assumption)|apply J2|apply J3|apply J4)))).mono ?_
  rintro e w1 ⟨rfl, hb1⟩; refine hK _ _ (by (repeat first|exact J0|assumption|(apply J1;assumption)|apply J2|apply J3|apply J4)) ?_
  clear hK K; have hB_w1 := hB.below (show Below _ _ w1 by (repeat first|exact J0|assumption|(apply J1;assumption)|apply J2|apply J3|apply J4))
  have fhB_w1 := hB_w1.facts
  refine Z10 ?_; have h1 := h0.below (show Below _ _ w1 by (repeat first|exact J0|assumption|(apply J1;assumption)|apply J2|apply J3|apply J4))
  go_wp2_with (first | (go_at_call 100; refine (Z1p x y _).mono ?_; rintro e w2 ⟨rfl, hb2⟩; have hB2 := hB_w1.below hb2; have fB2 := hB2.facts) | (go_at_call 99; go_must (refine (hF _ _ _ (Rd.ints2 (by simp) (by go_simp) (by go_simp))).mono ?_); rintro e w3 ⟨rfl, hb3⟩; have hB3 := ((hB2.alloc (.cells #[.int .i64 (netE l), .int .i64 (Z1a x y)] 29)).below hb3); have fB3 := hB3.facts))
  have h3 := (h1.below hb2).below (show Below _ _ w3 by (repeat first|exact J0|assumption|(apply J1;assumption)|apply J2|apply J3|apply J4))
  refine (Zdc l x y _ h3 hok.ok hok.len1 (by omega) (by omega)).mono ?_
  rintro e w4 ⟨v4, rfl, hO4, hb4⟩; have hbw3 : Below w.heap.size w w3 := by (repeat first|exact J0|assumption|(apply J1;assumption)|apply J2|apply J3|apply J4)
  go_wp2; go_ret2
  exact ⟨_, by rw [HS.out.2]; rfl, by rw [HS.out.1]; exact hO4.base_mono hbw3.size, by (repeat first|exact J0|assumption|(apply J1;assumption)|apply J2|apply J3|apply J4)⟩
 ·have HS : Hid (Zde l x y = [] ∧ Zdd l x y = degE l x y) := by unfold Hid Zde Zdd; rw [if_neg hE, if_neg hE]; exact ⟨rfl, rfl⟩
  have hE' : (degE l x y != 0) = true := by simpa using hE
  have hF : ∀ A c W, Rd ic 1 W A [netE l, Z1a x y] → Calls Tryz.prog 99 #[.slice A 2 c] W (RV W (.int .i64 (degE l x y))) := fun A c W hr => Z1m [netE l, Z1a x y] A c W (by simp [maxLen]) hr
  clear hE; go_enter Tryz.func73, Tryz.ntmps73
  go_wp2; refine Z0z [0, 2] [(1, false)] [3, 4, 5, 6] (by kernel_rfl) (by kernel_rfl) (fun d _ _ _ _ h => by cases d <;> exact h) ?_
  simp only [List.map_cons, List.map_nil, List.getD_cons_zero, List.getD_cons_succ]; repeat (go_big_quiet_step (fail))
  refine wpQuiet_nil ?_; refine Z11 rfl (fun K hK => ?_); go_simp; refine (Z5v l _ (h0.below (by (repeat first|exact J0|assumption|(apply J1;assumption)|apply J2|apply J3|apply J4)))).mono ?_
  rintro e w1 ⟨rfl, hb1⟩; refine hK _ _ (by (repeat first|exact J0|assumption|(apply J1;assumption)|apply J2|apply J3|apply J4)) ?_
  clear hK K; have hB_w1 := hB.below (show Below _ _ w1 by (repeat first|exact J0|assumption|(apply J1;assumption)|apply J2|apply J3|apply J4))
  have fhB_w1 := hB_w1.facts
  refine Z10 ?_; go_wp2_with (first | (go_at_call 100; refine (Z1p x y _).mono ?_; rintro e w2 ⟨rfl, hb2⟩) | (go_at_call 99; go_must (refine (hF _ _ _ (Rd.ints2 (by simp) (by go_simp) (by go_simp))).mono ?_); rintro e w3 ⟨rfl, hb3⟩))
  go_ret2
  exact ⟨_, by rw [HS.out.2]; rfl, by rw [HS.out.1]; exact Own.nil_, by (repeat first|exact J0|assumption|(apply J1;assumption)|apply J2|apply J3|apply J4)⟩
theorem Zdg {α β : Type} {f : α → β} {l : List α} (hn : l.Nodup) (hf : ∀ a ∈ l, ∀ b ∈ l, f a = f b → a = b) : (l.map f).Nodup := by
 rw [List.nodup_iff_pairwise_ne, List.pairwise_map]
 exact hn.imp_of_mem fun ha hb hne e => hne (hf _ ha _ hb e)
theorem Zdh {row X : Int} : ∀ {l : List Knot} {y : Int}, hits row y l X → ∃ k ∈ l, k.1 = X
 | [], _, h => h.elim
 | k :: r, _, h => by
  rcases h with ⟨_, h2⟩ | h
  ·exact ⟨k, List.mem_cons_self .., h2⟩
  ·obtain ⟨k', h1, h2⟩ := Zdh h
   exact ⟨k', List.mem_cons_of_mem _ h1, h2⟩
theorem Zdi {l : List Strp} {b : Bar} {k : Nat} (hb : b ∈ Z71 (l.getD k (0, 0, 0, 0)) (k : Int)) : ∀ n, k < n → b ∈ netN l n
 | 0, h => by omega
 | n + 1, h => by
  rw [netN, List.mem_append]; by_cases he : k = n
  ·subst he; exact .inr hb
  ·exact .inl (Zdi hb n (by omega))
theorem Zdj {p : Pan} (h : Zas p) (i : Nat) (hi : i < (Z6y p).length) : ∃ b ∈ netL p, b.2.1 = (i : Int) := by
 have hc := Zbp (Zcb h i hi)
 have hw := (Zcb h i hi).wide
 have hp : 0 < (Z71 (Z6y p)[i] (i : Int)).length := by omega
 have hm := List.getElem_mem hp
 refine ⟨_, Zdi (l := Z6y p) (k := i) (n := (Z6y p).length) ?_ hi, (Zbk hm).1⟩
 rw [List.getD_eq_getElem?_getD, List.getElem?_eq_getElem hi]
 exact hm
end Go.Proofs.YtpcgeihemkhkjaaGreatDoor

/- A side laid into strips, walked. Conditions: the outline ascends. -/
import Derived.Test.YtpcgeihemkhkjaaGreatDoorS16
namespace Go.Proofs.YtpcgeihemkhkjaaGreatDoor
open Go.RowKit Go.ChangeMaps
set_option maxHeartbeats 4000000
set_option maxRecDepth 100000
attribute [local go_sem] Oper.semAt_some
theorem Zf6 (l : List Knot) (A : Option Addr) (c n side B g : Nat) (f : Nat → Strp) (w : World) (hA : Asc l) (hl : l.length ≤ 100000) (hr : Rd kc 2 w A l) (hlc : l.length ≤ c) (hcm : c ≤ maxLen) (hn : ∀ h : l.length - 1 < l.length, l[l.length - 1].2 = (n : Int))
  (hB : Blk w B 118 #[.slice (some ⟨g, 0, none⟩) n n]) (hg : Blk w g 234 (rowG trc n f)) (hgA : ∀ b off, A = some ⟨b, off, none⟩ → b ∉ [g]) (hside : side = 0 ∨ side = 1) :
  Calls Tryz.prog 220 #[.slice A l.length c, .int .i64 (side : Int), .pointer (some ⟨B, 0, none⟩)] w fun e w' => e = .returned (.tuple #[]) ∧ Blk w' g 234 (rowG trc n (layF f l side n)) ∧ Chg [g] w w' := by
 have hne := hA.ne
 have HN := Lib.hid hn
 obtain ⟨tx, hlast, hn2⟩ : ∃ tx, l[l.length - 1]? = some (tx, (n : Int)) ∧ n ≤ 100000 := by
  have h1 : l.length - 1 < l.length := by omega
  have h2 := hn h1
  have h3 := (hA.near _ h1).2.2
  exact ⟨l[l.length - 1].1, by rw [List.getElem?_eq_getElem h1, ← h2], by omega⟩
 obtain ⟨A1, c1, hsl, hr1, hA1⟩ := Zer hr hlc hcm hne
 obtain ⟨m, hm⟩ : ∃ m, l.length - 1 = m := ⟨_, rfl⟩
 have hm1 : l.length ≤ m + 1 := by omega
 have hm2 : m + 1 ≤ l.length := by omega
 rw [hm] at hsl hlast
 have HL := Lib.hid hlast
 have HM := Lib.hid hm
 have hBg : B ≠ g := by
  rintro rfl
  unfold Blk at hB hg; rw [hB] at hg; simp at hg
 have hgA1 : ∀ b off, A1 = some ⟨b, off, none⟩ → b ∉ [g] := by
  intro b off e; obtain ⟨o2, e2⟩ := hA1 b off e
  exact hgA b o2 e2
 clear hn hlast hm
 obtain ⟨x0, HF0⟩ : ∃ x0, Hid (l[0]? = some (x0, ((0 : Nat) : Int))) := ⟨l[0].1, by unfold Hid; rw [List.getElem?_eq_getElem hne]; exact congrArg some (Prod.ext rfl hA.first)⟩
 rcases hside with rfl | rfl
 ·go_enter Tryz.func220, Tryz.ntmps220
  go_wp2; go_loopw [11] (fun s wr => ∃ i a : Nat, ∃ xa : Int, i ≤ m ∧ s = .int .i64 i ∧ Hid (l[i]? = some (xa, (a : Int))) ∧ Blk wr g 234 (rowG trc n (layF f l 0 a)) ∧ Chg [g] w wr) (fun s _ => m - (intOf s).toNat)
  case atStart => exact ⟨0, 0, x0, Nat.zero_le _, rfl, HF0, by rw [Z7k]; exact hg, Chg.refl⟩
  case round =>
   obtain ⟨i, a, xa, hi, rfl, HA0, hGi, hci⟩ := hrel; by_cases hlt : i < m
   ·have hi1 : i + 1 < l.length := by omega
    obtain ⟨x, t, hx, hx1, hx2, hx3⟩ := Zet hA hi1
    have ha : l[i] = (xa, (a : Int)) := by have := HA0.out; rw [List.getElem?_eq_getElem (by omega)] at this; exact Option.some.inj this
    have hxa := hA.near i (by omega)
    rw [ha] at hxa; simp only at hxa
    have hat : a ≤ t := by have := hA.up i hi1; rw [ha, hx] at this; simpa using this
    have htn : t ≤ n := by
     have h1 := hA.le (show i + 1 ≤ m by omega) (by omega)
     have h2 := HL.out
     rw [List.getElem?_eq_getElem (by omega)] at h2
     rw [hx, Option.some.inj h2] at h1; simpa using h1
    have HA1 : Hid (l[i + 1]? = some (x, (t : Int))) := by unfold Hid; rw [List.getElem?_eq_getElem hi1, hx]
    obtain ⟨b, off, hAe, hbl, r0, r1⟩ := (hr.chgN hci hgA).knot (show i < l.length by omega)
    obtain ⟨b1, off1, rfl, hbl1, s0, s1⟩ := (hr1.chgN hci hgA1).knot (k := i) (by rw [List.length_drop]; omega)
    obtain rfl := hAe
    rw [Zes hi1, hx] at s0 s1; rw [ha] at r0 r1; simp only at s0 s1 r0 r1
    have hK := Blk.new wr 90 #[.int .i64 x, .int .i64 t]
    have hGk := hGi.alloc (.cells #[.int .i64 x, .int .i64 t] 90)
    have hck : Chg [g] w (wr.alloc (.cells #[.int .i64 x, .int .i64 t] 90)) := hci.trans (Chg.of_below (Z04 Z03 _))
    have hbg := hgA b off rfl
    have hgw := hg.lt
    have hbgs : ¬ b = g := by simpa using hbg
    clear ha hx; go_upto_region 4 with fail; obtain ⟨wk, hwk⟩ : ∃ X, wr.alloc (.cells #[.int .i64 x, .int .i64 t] 90) = X := ⟨_, rfl⟩
    obtain ⟨gk, hgk⟩ : ∃ X, wr.heap.size = X := ⟨_, rfl⟩
    have hgk' : g < gk := by rw [← hgk]; exact hGi.lt
    rw [hwk, hgk] at hK; rw [hwk] at hGk hck; rw [hwk, hgk]; clear hwk hgk s0 s1 r0 r1 hbl hbl1 hGi hci; go_loopw [7] (fun s wq => ∃ y : Nat, a ≤ y ∧ y ≤ t ∧ s = .int .i64 y ∧ Blk wq g 234 (rowG trc n (layF f l 0 y)) ∧ Blk wq gk 90 #[.int .i64 x, .int .i64 t] ∧ Chg [g] w wq) (fun s _ => t - (intOf s).toNat)
    case atStart => exact ⟨a, Nat.le_refl _, hat, rfl, hGk, hK, hck⟩
    case round =>
     clear hGk hK hck; obtain ⟨y, hy1, hy2, rfl, hGy, hKy, hcy⟩ := hrel; obtain ⟨wq, rfl⟩ : ∃ x, x = wr := ⟨_, rfl⟩
     have fK := hKy.facts
     have hBy := hB.chg hcy (by simpa using hBg)
     by_cases hyt : y < t
     ·have hr4 := (hr.chgN hcy hgA).knot (show i < l.length by omega)
      obtain ⟨_, _, hE4, hbl, r0, r1⟩ := hr4; obtain ⟨rfl, rfl⟩ : b = _ ∧ off = _ := by simpa using hE4
      rw [show l[i] = (xa, (a : Int)) by have := HA0.out; rw [List.getElem?_eq_getElem (by omega)] at this; exact Option.some.inj this] at r0
      simp only at r0
      obtain ⟨⟨f0, f1, f2, f3⟩, hfy⟩ : ∃ z, layF f l 0 y y = z := ⟨_, rfl⟩
      have HLY : Hid (putT (layF f l 0 y) y 0 xa x = layF f l 0 (y + 1)) := Z7m hA HA0.out HA1.out ⟨hy1, hyt⟩ f 0
      obtain ⟨fy, hFY⟩ : ∃ F, layF f l 0 y = F := ⟨_, rfl⟩
      rw [hFY] at hGy hfy HLY; have hyn : y < n := by omega
      have c0 := Zel Z8k (j := 0) fy hyn (by decide)
      simp only [Nat.add_zero] at c0; have c1 := Zel Z8k (j := 2) fy hyn (by decide)
      rw [hfy] at c0 c1; have d0 : wq.cell? ⟨g, y * 4, none⟩ = some (.int .i64 f0) := by rw [hGy.cell, c0]; rfl
      have d1 : wq.cell? ⟨g, y * 4 + 2, none⟩ = some (.int .i64 f2) := by rw [hGy.cell, c1]; rfl
      have z0 := hGy.frozen
      have z1 : ∀ i, (wq.setCell ⟨g, y * 4, none⟩ (.int .i64 xa)).frozen? ⟨g, i, none⟩ = false := (hGy.set_ _ _).frozen
      have hS := (((hGy.drew.set_ (y * 4) (.int .i64 xa)).set_ (y * 4 + 2) (.int .i64 x)))
      have s1 := Zem Z8k (j := 0) (u := .int .i64 xa) fy (xa, f1, f2, f3) hyn (by decide) (by rw [hfy]; rfl)
      have s2 := Zem Z8k (j := 2) (u := .int .i64 x) (fun z => if z = y then (xa, f1, f2, f3) else fy z) (xa, f1, x, f3) hyn (by decide) (by simp only [if_true]; rfl)
      simp only [Nat.add_zero] at s1; rw [s1, s2] at hS
      have hFF : (fun z => if z = y then ((xa, f1, x, f3) : Strp) else if z = y then (xa, f1, f2, f3) else fy z) = putT fy y 0 xa x := by
       funext z
       unfold putT setT; by_cases h : z = y
       ·rw [if_pos h, if_pos h, hfy]
        rfl
       ·rw [if_neg h, if_neg h, if_neg h]
      rw [hFF, HLY.out] at hS; have hKS := (hKy.drew.far (p := ⟨g, y * 4, none⟩) (by simp; omega) (.int .i64 xa)).far (p := ⟨g, y * 4 + 2, none⟩) (by simp; omega) (.int .i64 x)
      have hcS : Chg [g] w ((wq.drew.setCell ⟨g, y * 4, none⟩ (.int .i64 xa)).setCell ⟨g, y * 4 + 2, none⟩ (.int .i64 x)) := ((hcy.drew).setIn (p := ⟨g, y * 4, none⟩) (by simp) _).setIn (p := ⟨g, y * 4 + 2, none⟩) (by simp) _
      clear hFF hfy c0 c1 hFY; obtain ⟨P0, hP0⟩ : ∃ P0 : World → Prop, P0 = fun u => u.cell? ⟨B, 0, none⟩ = some (.slice (some ⟨g, 0, none⟩) n n) ∧ u.cell? ⟨b, off + i * 2, none⟩ = some (.int .i64 xa) ∧ u.cell? ⟨gk, 0, none⟩ = some (.int .i64 x) := ⟨_, rfl⟩
      have hPi : ∀ u, P0 u → u.cell? ⟨B, 0, none⟩ = some (.slice (some ⟨g, 0, none⟩) n n) ∧ u.cell? ⟨b, off + i * 2, none⟩ = some (.int .i64 xa) ∧ u.cell? ⟨gk, 0, none⟩ = some (.int .i64 x) := fun u h => by rw [hP0] at h; exact h
      have hp0 : P0 wq.drew := by rw [hP0]; exact ⟨by rw [hBy.drew.cell]; rfl, r0, by rw [hKy.drew.cell]; rfl⟩
      have hp1 : P0 (wq.drew.setCell ⟨g, y * 4, none⟩ (.int .i64 xa)) := by
       rw [hP0]; refine ⟨by rw [(hBy.drew.far (p := ⟨g, y * 4, none⟩) hBg _).cell]; rfl, ?_, by rw [(hKy.drew.far (p := ⟨g, y * 4, none⟩) (by simp; omega) _).cell]; rfl⟩
       rw [World.cell?_setCell_other]
       ·exact r0
       ·intro e9
        exact hbgs (congrArg Addr.block e9).symm
      have hq0 : ∀ u : BelM 0 wq P0, u.val.cell? ⟨B, 0, none⟩ = some (.slice (some ⟨g, 0, none⟩) n n) := fun u => (hPi _ u.has).1
      have hq1 : ∀ u : BelM 0 wq P0, u.val.cell? ⟨b, off + i * 2, none⟩ = some (.int .i64 xa) := fun u => (hPi _ u.has).2.1
      have hq2 : ∀ u : BelM 0 wq P0, u.val.cell? ⟨gk, 0, none⟩ = some (.int .i64 x) := fun u => (hPi _ u.has).2.2
      have hst1 : Below 0 wq (wq.drew.setCell ⟨g, y * 4, none⟩ (.int .i64 xa)) := ((Below.refl 0 wq).drew).setCell (p := ⟨g, y * 4, none⟩) (Nat.zero_le _) _
      haveI hne' : Nonempty (BelM 0 wq P0) := BelM.none_empty ((Below.refl 0 wq).drew) hp0
      clear hP0; go_upto_region 6 with fail; refine Z5m (0) (P0) [0, 1, 2, 3, 4, 5, 6, 7, 8, 9, 10, 11, 12, 13, 14, 15, 17, 18] [(16, false)] [19, 20] (by kernel_rfl) (by kernel_rfl) (fun d _ _ _ _ h => by cases d <;> exact h) (hp0) ?_
      simp only [List.map_cons, List.map_nil, List.getD_cons_zero, List.getD_cons_succ]; repeat (go_big_quiet_step (fail))
      refine wpQuiet_nil ?_; refine Z5n rfl (fun K hK => ?_)
      go_simp; refine hK _ _ (hst1) (hp1) ?_
      clear hK K; refine Z10 ?_; clear hq0 hq1 hq2 hne' hp0 hp1; go_wp2; go_roundw; case rel => exact ⟨y + 1, by omega, by omega, by go_num, hS, hKS, hcS⟩
      case measure => simp [intOf]; omega
     ·obtain rfl : y = t := by omega
      go_wp2; go_roundw; case rel => exact ⟨i + 1, y, x, by omega, by go_num, HA1, hGy, hcy⟩
      case measure => simp [intOf]; omega
   ·obtain rfl : i = m := by omega
    obtain rfl : n = a := by
     have h1 := HL.out
     rw [HA0.out] at h1; simp at h1
     omega
    go_wp2; go_end0
    exact ⟨rfl, hGi, hci⟩
 ·go_enter Tryz.func220, Tryz.ntmps220
  go_wp2; go_loopw [11] (fun s wr => ∃ i a : Nat, ∃ xa : Int, i ≤ m ∧ s = .int .i64 i ∧ Hid (l[i]? = some (xa, (a : Int))) ∧ Blk wr g 234 (rowG trc n (layF f l 1 a)) ∧ Chg [g] w wr) (fun s _ => m - (intOf s).toNat)
  case atStart => exact ⟨0, 0, x0, Nat.zero_le _, rfl, HF0, by rw [Z7k]; exact hg, Chg.refl⟩
  case round =>
   obtain ⟨i, a, xa, hi, rfl, HA0, hGi, hci⟩ := hrel; by_cases hlt : i < m
   ·have hi1 : i + 1 < l.length := by omega
    obtain ⟨x, t, hx, hx1, hx2, hx3⟩ := Zet hA hi1
    have ha : l[i] = (xa, (a : Int)) := by have := HA0.out; rw [List.getElem?_eq_getElem (by omega)] at this; exact Option.some.inj this
    have hxa := hA.near i (by omega)
    rw [ha] at hxa; simp only at hxa
    have hat : a ≤ t := by have := hA.up i hi1; rw [ha, hx] at this; simpa using this
    have htn : t ≤ n := by
     have h1 := hA.le (show i + 1 ≤ m by omega) (by omega)
     have h2 := HL.out
     rw [List.getElem?_eq_getElem (by omega)] at h2
     rw [hx, Option.some.inj h2] at h1; simpa using h1
    have HA1 : Hid (l[i + 1]? = some (x, (t : Int))) := by unfold Hid; rw [List.getElem?_eq_getElem hi1, hx]
    obtain ⟨b, off, hAe, hbl, r0, r1⟩ := (hr.chgN hci hgA).knot (show i < l.length by omega)
    obtain ⟨b1, off1, rfl, hbl1, s0, s1⟩ := (hr1.chgN hci hgA1).knot (k := i) (by rw [List.length_drop]; omega)
    obtain rfl := hAe
    rw [Zes hi1, hx] at s0 s1; rw [ha] at r0 r1; simp only at s0 s1 r0 r1
    have hK := Blk.new wr 90 #[.int .i64 x, .int .i64 t]
    have hGk := hGi.alloc (.cells #[.int .i64 x, .int .i64 t] 90)
    have hck : Chg [g] w (wr.alloc (.cells #[.int .i64 x, .int .i64 t] 90)) := hci.trans (Chg.of_below (Z04 Z03 _))
    have hbg := hgA b off rfl
    have hgw := hg.lt
    have hbgs : ¬ b = g := by simpa using hbg
    clear ha hx; go_upto_region 4 with fail; obtain ⟨wk, hwk⟩ : ∃ X, wr.alloc (.cells #[.int .i64 x, .int .i64 t] 90) = X := ⟨_, rfl⟩
    obtain ⟨gk, hgk⟩ : ∃ X, wr.heap.size = X := ⟨_, rfl⟩
    have hgk' : g < gk := by rw [← hgk]; exact hGi.lt
    rw [hwk, hgk] at hK; rw [hwk] at hGk hck; rw [hwk, hgk]; clear hwk hgk s0 s1 r0 r1 hbl hbl1 hGi hci; go_loopw [7] (fun s wq => ∃ y : Nat, a ≤ y ∧ y ≤ t ∧ s = .int .i64 y ∧ Blk wq g 234 (rowG trc n (layF f l 1 y)) ∧ Blk wq gk 90 #[.int .i64 x, .int .i64 t] ∧ Chg [g] w wq) (fun s _ => t - (intOf s).toNat)
    case atStart => exact ⟨a, Nat.le_refl _, hat, rfl, hGk, hK, hck⟩
    case round =>
     clear hGk hK hck; obtain ⟨y, hy1, hy2, rfl, hGy, hKy, hcy⟩ := hrel; obtain ⟨wq, rfl⟩ : ∃ x, x = wr := ⟨_, rfl⟩
     have fK := hKy.facts
     have hBy := hB.chg hcy (by simpa using hBg)
     by_cases hyt : y < t
     ·have hr4 := (hr.chgN hcy hgA).knot (show i < l.length by omega)
      obtain ⟨_, _, hE4, hbl, r0, r1⟩ := hr4; obtain ⟨rfl, rfl⟩ : b = _ ∧ off = _ := by simpa using hE4
      rw [show l[i] = (xa, (a : Int)) by have := HA0.out; rw [List.getElem?_eq_getElem (by omega)] at this; exact Option.some.inj this] at r0
      simp only at r0
      obtain ⟨⟨f0, f1, f2, f3⟩, hfy⟩ : ∃ z, layF f l 1 y y = z := ⟨_, rfl⟩
      have HLY : Hid (putT (layF f l 1 y) y 1 xa x = layF f l 1 (y + 1)) := Z7m hA HA0.out HA1.out ⟨hy1, hyt⟩ f 1
      obtain ⟨fy, hFY⟩ : ∃ F, layF f l 1 y = F := ⟨_, rfl⟩
      rw [hFY] at hGy hfy HLY; have hyn : y < n := by omega
      have c0 := Zel Z8k (j := 1) fy hyn (by decide)
      have c1 := Zel Z8k (j := 3) fy hyn (by decide)
      rw [hfy] at c0 c1; have d0 : wq.cell? ⟨g, y * 4 + 1, none⟩ = some (.int .i64 f1) := by rw [hGy.cell, c0]; rfl
      have d1 : wq.cell? ⟨g, y * 4 + 3, none⟩ = some (.int .i64 f3) := by rw [hGy.cell, c1]; rfl
      have z0 := hGy.frozen
      have z1 : ∀ i, (wq.setCell ⟨g, y * 4 + 1, none⟩ (.int .i64 xa)).frozen? ⟨g, i, none⟩ = false := (hGy.set_ _ _).frozen
      have hS := (((hGy.drew.set_ (y * 4 + 1) (.int .i64 xa)).set_ (y * 4 + 3) (.int .i64 x)))
      have s1 := Zem Z8k (j := 1) (u := .int .i64 xa) fy (f0, xa, f2, f3) hyn (by decide) (by rw [hfy]; rfl)
      have s2 := Zem Z8k (j := 3) (u := .int .i64 x) (fun z => if z = y then (f0, xa, f2, f3) else fy z) (f0, xa, f2, x) hyn (by decide) (by simp only [if_true]; rfl)
      rw [s1, s2] at hS
      have hFF : (fun z => if z = y then ((f0, xa, f2, x) : Strp) else if z = y then (f0, xa, f2, f3) else fy z) = putT fy y 1 xa x := by
       funext z
       unfold putT setT; by_cases h : z = y
       ·rw [if_pos h, if_pos h, hfy]
        rfl
       ·rw [if_neg h, if_neg h, if_neg h]
      rw [hFF, HLY.out] at hS; have hKS := (hKy.drew.far (p := ⟨g, y * 4 + 1, none⟩) (by simp; omega) (.int .i64 xa)).far (p := ⟨g, y * 4 + 3, none⟩) (by simp; omega) (.int .i64 x)
      have hcS : Chg [g] w ((wq.drew.setCell ⟨g, y * 4 + 1, none⟩ (.int .i64 xa)).setCell ⟨g, y * 4 + 3, none⟩ (.int .i64 x)) := ((hcy.drew).setIn (p := ⟨g, y * 4 + 1, none⟩) (by simp) _).setIn (p := ⟨g, y * 4 + 3, none⟩) (by simp) _
      clear hFF hfy c0 c1 hFY; obtain ⟨P0, hP0⟩ : ∃ P0 : World → Prop, P0 = fun u => u.cell? ⟨B, 0, none⟩ = some (.slice (some ⟨g, 0, none⟩) n n) ∧ u.cell? ⟨b, off + i * 2, none⟩ = some (.int .i64 xa) ∧ u.cell? ⟨gk, 0, none⟩ = some (.int .i64 x) := ⟨_, rfl⟩
      have hPi : ∀ u, P0 u → u.cell? ⟨B, 0, none⟩ = some (.slice (some ⟨g, 0, none⟩) n n) ∧ u.cell? ⟨b, off + i * 2, none⟩ = some (.int .i64 xa) ∧ u.cell? ⟨gk, 0, none⟩ = some (.int .i64 x) := fun u h => by rw [hP0] at h; exact h
      have hp0 : P0 wq.drew := by rw [hP0]; exact ⟨by rw [hBy.drew.cell]; rfl, r0, by rw [hKy.drew.cell]; rfl⟩
      have hp1 : P0 (wq.drew.setCell ⟨g, y * 4 + 1, none⟩ (.int .i64 xa)) := by
       rw [hP0]; refine ⟨by rw [(hBy.drew.far (p := ⟨g, y * 4 + 1, none⟩) hBg _).cell]; rfl, ?_, by rw [(hKy.drew.far (p := ⟨g, y * 4 + 1, none⟩) (by simp; omega) _).cell]; rfl⟩
       rw [World.cell?_setCell_other]
       ·exact r0
       ·intro e9
        exact hbgs (congrArg Addr.block e9).symm
      have hq0 : ∀ u : BelM 0 wq P0, u.val.cell? ⟨B, 0, none⟩ = some (.slice (some ⟨g, 0, none⟩) n n) := fun u => (hPi _ u.has).1
      have hq1 : ∀ u : BelM 0 wq P0, u.val.cell? ⟨b, off + i * 2, none⟩ = some (.int .i64 xa) := fun u => (hPi _ u.has).2.1
      have hq2 : ∀ u : BelM 0 wq P0, u.val.cell? ⟨gk, 0, none⟩ = some (.int .i64 x) := fun u => (hPi _ u.has).2.2
      have hst1 : Below 0 wq (wq.drew.setCell ⟨g, y * 4 + 1, none⟩ (.int .i64 xa)) := ((Below.refl 0 wq).drew).setCell (p := ⟨g, y * 4 + 1, none⟩) (Nat.zero_le _) _
      haveI hne' : Nonempty (BelM 0 wq P0) := BelM.none_empty ((Below.refl 0 wq).drew) hp0
      clear hP0; go_upto_region 6 with fail; refine Z5m (0) (P0) [0, 1, 2, 3, 4, 5, 6, 7, 8, 9, 10, 11, 12, 13, 14, 15, 17, 18] [(16, false)] [19, 20] (by kernel_rfl) (by kernel_rfl) (fun d _ _ _ _ h => by cases d <;> exact h) (hp0) ?_
      simp only [List.map_cons, List.map_nil, List.getD_cons_zero, List.getD_cons_succ]; repeat (go_big_quiet_step (fail))
      refine wpQuiet_nil ?_; refine Z5n rfl (fun K hK => ?_)
      go_simp; refine hK _ _ (hst1) (hp1) ?_
      clear hK K; refine Z10 ?_; clear hq0 hq1 hq2 hne' hp0 hp1; go_wp2; go_roundw; case rel => exact ⟨y + 1, by omega, by omega, by go_num, hS, hKS, hcS⟩
      case measure => simp [intOf]; omega
     ·obtain rfl : y = t := by omega
      go_wp2; go_roundw; case rel => exact ⟨i + 1, y, x, by omega, by go_num, HA1, hGy, hcy⟩
      case measure => simp [intOf]; omega
   ·obtain rfl : i = m := by omega
    obtain rfl : n = a := by
     have h1 := HL.out
     rw [HA0.out] at h1; simp at h1
     omega
    go_wp2; go_end0
    exact ⟨rfl, hGi, hci⟩
theorem Zf7 {vL vR : Value} (p : Pan) (w : World) (hL : SlE w vL p.2.2.1) (hR : SlE w vR p.2.2.2) (hok : Zas p) :
  Calls Tryz.prog 199 #[.agg #[sV p.1, .int .i64 p.2.1, vL, vR]] w (RG trc 4 234 w (Z6y p)) := by
 obtain ⟨H, hH⟩ : ∃ H : Nat, Z35 p = H := ⟨(Z35 p).toNat, by have := hok.high; omega⟩
 have hHb : H ≤ 256 := by have := hok.high; omega
 have hh := fun W (hb : Below w.heap.size w W) => Zar p W (hL.below hb) (hR.below hb) hok.wid' (hok.side false)
 rw [hH] at hh
 have o1 := fun W (hb : Below w.heap.size w W) => Zal p false W (hL.below hb) (hR.below hb) hok.wid' (hok.side false)
 have o2 := fun W (hb : Below w.heap.size w W) => Zal p true W (hL.below hb) (hR.below hb) hok.wid' (hok.side true)
 have ha1 := hok.asc false
 have ha2 := hok.asc true
 have n1 := Zay p false hok
 have n2 := Zay p true hok
 rw [hH] at n1 n2
 have l1 := Zaq p false (hok.side false)
 have l2 := Zaq p true (hok.side true)
 have HS : Hid (Z6y p = (List.range H).map fun y => strI (outP p false) (outP p true) (y : Nat)) := by unfold Hid Z6y; rw [hH]; rfl
 obtain ⟨O1, hO1⟩ : ∃ O, outP p false = O := ⟨_, rfl⟩
 obtain ⟨O2, hO2⟩ : ∃ O, outP p true = O := ⟨_, rfl⟩
 rw [hO1] at o1 ha1 n1 l1 HS
 rw [hO2] at o2 ha2 n2 l2 HS
 have N1 := Lib.hid n1
 have N2 := Lib.hid n2
 have hmk : ∀ W, (Instr.makeSlice 118 (.int .i64 (H : Int)) (.int .i64 (H : Int))).run Tryz.prog W = _ := fun W => Zeq W H (by omega)
 obtain ⟨AL, cL, rfl, _, _, _⟩ := hL
 obtain ⟨AR, cR, rfl, _, _, _⟩ := hR
 unfold sV at hh o1 o2 ⊢
 have hP := Blk.new w 97 #[.string ⟨p.1.toArray⟩, .int .i64 p.2.1, .slice AL p.2.2.1.length cL, .slice AR p.2.2.2.length cR]
 have fhP := hP.facts
 clear hO1 hO2 n1 n2 hH
 go_enter Tryz.func199, Tryz.ntmps199
 go_wp2_with fail
 refine (hh _ (by (repeat first|exact J0|assumption|(apply J1;assumption)|apply J2|apply J3|apply J4))).mono ?_
 rintro e w2 ⟨rfl, hb2⟩
 replace hP := hP.below (show Below _ _ w2 by (repeat first|exact J0|assumption|(apply J1;assumption)|apply J2|apply J3|apply J4))
 replace fhP := hP.facts
 go_upto_region 3 with fail
 have hG := (Blk.new w2 234 (rowG trc H fun _ => (0, 0, 0, 0))).alloc (.cells #[.slice (some ⟨w2.heap.size, 0, none⟩) H H] 118)
 have hB := Blk.new1 w2 (.cells (rowG trc H fun _ => (0, 0, 0, 0)) 234) 118 #[.slice (some ⟨w2.heap.size, 0, none⟩) H H]
 have hP3 := (hP.alloc (.cells (rowG trc H fun _ => (0, 0, 0, 0)) 234)).alloc (.cells #[.slice (some ⟨w2.heap.size, 0, none⟩) H H] 118)
 obtain ⟨w3, hw3⟩ : ∃ X, (w2.alloc (.cells (rowG trc H fun _ => (0, 0, 0, 0)) 234)).alloc (.cells #[.slice (some ⟨w2.heap.size, 0, none⟩) H H] 118) = X := ⟨_, rfl⟩
 have hb3 : Below w.heap.size w w3 := by rw [← hw3]; exact Z04 (Z04 (Z08 hb2 (Z04 Z03 _)) _) _
 obtain ⟨g, hg⟩ : ∃ g, w2.heap.size = g := ⟨_, rfl⟩
 have hgw : w.heap.size < g := by rw [← hg]; exact hP.lt
 rw [hw3, hg] at hG hB
 rw [hw3] at hP3
 rw [hw3, hg]
 clear hw3 hg hb2 hP fhP hmk
 have fP := hP3.facts
 go_wp2_with fail
 refine (o1 _ hb3).mono ?_
 rintro e w4 ⟨v4, rfl, hO4, hb4⟩
 obtain ⟨A4, c4, rfl⟩ := hO4.shape
 obtain ⟨_, _, he4, hlc4, hcm4, hr4⟩ := hO4.rd Z21
 obtain ⟨rfl, rfl⟩ : A4 = _ ∧ c4 = _ := by simpa using he4
 have hG4 := hG.below hb4
 have hB4 := hB.below hb4
 have hgA : ∀ b off, A4 = some ⟨b, off, none⟩ → b ∉ [g] := by
  intro b off e; have := (hO4.lt b (by rw [e]; rfl)).1
  have := hG.lt
  simp
  omega
 go_wp2_with fail
 refine (Zf6 O1 A4 c4 H 0 (g + 1) g _ _ ha1 (by omega) hr4 hlc4 hcm4 N1.out hB4 hG4 hgA (.inl rfl)).mono ?_
 rintro e w5 ⟨rfl, hG5, hc5⟩
 have hB5 := hB4.chg hc5 (by simp)
 have hP5 := (hP3.below hb4).chg hc5 (by simp; omega)
 have hb5 : Below w.heap.size w w5 := Z9f (Z08 hb4 hb3) hc5 (by omega)
 clear hO4 hr4 hG4 hB4 hG hB hb3 hb4 hc5 hP3 fP hgA
 have fP := hP5.facts
 go_wp2_with fail
 refine (o2 _ hb5).mono ?_
 rintro e w6 ⟨v6, rfl, hO6, hb6⟩
 obtain ⟨A6, c6, rfl⟩ := hO6.shape
 obtain ⟨_, _, he6, hlc6, hcm6, hr6⟩ := hO6.rd Z21
 obtain ⟨rfl, rfl⟩ : A6 = _ ∧ c6 = _ := by simpa using he6
 have hG6 := hG5.below hb6
 have hB6 := hB5.below hb6
 have hgA : ∀ b off, A6 = some ⟨b, off, none⟩ → b ∉ [g] := by
  intro b off e; have := (hO6.lt b (by rw [e]; rfl)).1
  have := hG5.lt
  simp
  omega
 go_wp2_with fail
 refine (Zf6 O2 A6 c6 H 1 (g + 1) g _ _ ha2 (by omega) hr6 hlc6 hcm6 N2.out hB6 hG6 hgA (.inr rfl)).mono ?_
 rintro e w7 ⟨rfl, hG7, hc7⟩
 have hB7 := hB6.chg hc7 (by simp)
 have hb7 : Below w.heap.size w w7 := Z9f (Z08 hb6 hb5) hc7 (by omega)
 have fB := hB7.facts
 go_wp2
 go_ret
 exact ⟨_, rfl, by rw [HS.out, ← Z7n]; exact hG7.row Z8k (by omega) (by omega), hb7⟩
theorem Zf8 {vL vR : Value} (p : Pan) (w : World) (hL : SlE w vL p.2.2.1) (hR : SlE w vR p.2.2.2) (hok : Zas p) :
  Calls Tryz.prog 186 #[.agg #[sV p.1, .int .i64 p.2.1, vL, vR]] w (RV w (.agg (Ze4 p))) := by
 have o1 := fun W (hb : Below w.heap.size w W) => Zal p false W (hL.below hb) (hR.below hb) hok.wid' (hok.side false)
 have o2 := fun W (hb : Below w.heap.size w W) => Zal p true W (hL.below hb) (hR.below hb) hok.wid' (hok.side true)
 have l1 := Zaq p false (hok.side false)
 have l2 := Zaq p true (hok.side true)
 have h1 := Ze5 p false
 have h2 := Ze5 p true
 have e1 := Zao p false
 have e2 := Zao p true
 simp only [Z33, Bool.false_eq_true, if_false, if_true] at e1 e2
 have HC : Hid (Ze4 p = #[.int .i64 (Z34 p false).1, .int .i64 (Z34 p false).2, .int .i64 (Z34 p true).1, .int .i64 (Z34 p true).2,
  .int .i64 (posK false (Z34 p false) (stpL p.2.2.1)).1, .int .i64 (posK false (Z34 p false) (stpL p.2.2.1)).2, .int .i64 (posK true (Z34 p true) (stpL p.2.2.2)).1, .int .i64 (posK true (Z34 p true) (stpL p.2.2.2)).2]) := rfl
 obtain ⟨C, hC⟩ : ∃ C, Ze4 p = C := ⟨_, rfl⟩
 rw [hC] at HC ⊢
 clear hC
 obtain ⟨⟨x1, y1⟩, hk1⟩ : ∃ z, posK false (Z34 p false) (stpL p.2.2.1) = z := ⟨_, rfl⟩
 obtain ⟨⟨x2, y2⟩, hk2⟩ : ∃ z, posK true (Z34 p true) (stpL p.2.2.2) = z := ⟨_, rfl⟩
 rw [hk1] at e1 HC
 rw [hk2] at e2 HC
 clear hk1 hk2
 obtain ⟨⟨a1, b1⟩, hk1⟩ : ∃ z, Z34 p false = z := ⟨_, rfl⟩
 obtain ⟨⟨a2, b2⟩, hk2⟩ : ∃ z, Z34 p true = z := ⟨_, rfl⟩
 rw [hk1] at h1 HC
 rw [hk2] at h2 HC
 clear hk1 hk2
 obtain ⟨O1, hO1⟩ : ∃ O, outP p false = O := ⟨_, rfl⟩
 obtain ⟨O2, hO2⟩ : ∃ O, outP p true = O := ⟨_, rfl⟩
 rw [hO1] at o1 l1 h1 e1
 rw [hO2] at o2 l2 h2 e2
 clear hO1 hO2
 have HH1 := Lib.hid h1
 have HH2 := Lib.hid h2
 have HE1 := Lib.hid e1
 have HE2 := Lib.hid e2
 clear h1 h2 e1 e2
 obtain ⟨AL, cL, rfl, _, _, _⟩ := hL
 obtain ⟨AR, cR, rfl, _, _, _⟩ := hR
 unfold sV at o1 o2 ⊢
 have hP := (Blk.new w 97 #[.string ⟨p.1.toArray⟩, .int .i64 p.2.1, .slice AL p.2.2.1.length cL, .slice AR p.2.2.2.length cR]).alloc (.cells #[.int .i64 0, .int .i64 0, .int .i64 0, .int .i64 0, .int .i64 0, .int .i64 0, .int .i64 0, .int .i64 0] 212)
 have hZ := Blk.new1 w (.cells #[.string ⟨p.1.toArray⟩, .int .i64 p.2.1, .slice AL p.2.2.1.length cL, .slice AR p.2.2.2.length cR] 97) 212 #[.int .i64 0, .int .i64 0, .int .i64 0, .int .i64 0, .int .i64 0, .int .i64 0, .int .i64 0, .int .i64 0]
 go_enter Tryz.func186, Tryz.ntmps186
 go_upto_region 1 with fail
 obtain ⟨w1, hw1⟩ : ∃ X, (w.alloc (.cells #[.string ⟨p.1.toArray⟩, .int .i64 p.2.1, .slice AL p.2.2.1.length cL, .slice AR p.2.2.2.length cR] 97)).alloc (.cells #[.int .i64 0, .int .i64 0, .int .i64 0, .int .i64 0, .int .i64 0, .int .i64 0, .int .i64 0, .int .i64 0] 212) = X := ⟨_, rfl⟩
 have hb1 : Below w.heap.size w w1 := by rw [← hw1]; exact Z04 (Z04 Z03 _) _
 rw [hw1] at hP hZ ⊢
 clear hw1
 have fhP := hP.facts
 refine Z0z [0, 2] [(1, false)] [3, 4, 5] (by kernel_rfl) (by kernel_rfl) (fun d _ _ _ _ h => by cases d <;> exact h) ?_
 simp only [List.map_cons, List.map_nil, List.getD_cons_zero, List.getD_cons_succ]
 repeat (go_big_quiet_step (fail))
 refine wpQuiet_nil ?_
 refine Z11 rfl (fun K hK => ?_)
 go_simp
 refine (o1 _ (by (repeat first|exact J0|assumption|(apply J1;assumption)|apply J2|apply J3|apply J4))).mono ?_
 rintro e w8 ⟨v8, rfl, hO8, hb8⟩
 refine hK _ _ (by (repeat first|exact J0|assumption|(apply J1;assumption)|apply J2|apply J3|apply J4)) ?_
 clear hK K
 have hP_w8 := hP.below (show Below _ _ w8 by (repeat first|exact J0|assumption|(apply J1;assumption)|apply J2|apply J3|apply J4))
 have fhP_w8 := hP_w8.facts
 refine Z10 ?_
 go_wp2_with (go_at_call 181; refine (o2 _ (by (repeat first|exact J0|assumption|(apply J1;assumption)|apply J2|apply J3|apply J4))).mono ?_; rintro e w9 ⟨v9, rfl, hO9, hb9⟩)
 obtain ⟨A8, c8, rfl⟩ := hO8.shape
 obtain ⟨_, _, he8, hlc8, hcm8, hr8⟩ := hO8.rd Z21
 obtain ⟨rfl, rfl⟩ : A8 = _ ∧ c8 = _ := by simpa using he8
 obtain ⟨A9, c9, rfl⟩ := hO9.shape
 obtain ⟨_, _, he9, hlc9, hcm9, hr9⟩ := hO9.rd Z21
 obtain ⟨rfl, rfl⟩ : A9 = _ ∧ c9 = _ := by simpa using he9
 have hb19 : Below w1.heap.size w1 w9 := by (repeat first|exact J0|assumption|(apply J1;assumption)|apply J2|apply J3|apply J4)
 have hbw9 : Below w.heap.size w w9 := Z08 hb19 hb1
 have hZ9 := hZ.below hb19
 replace hr8 := hr8.below (show Below w8.heap.size w8 w9 by (repeat first|exact J0|assumption|(apply J1;assumption)|apply J2|apply J3|apply J4))
 obtain ⟨s8, o8, hA8, hl8, p8, q8⟩ := hr8.knot (k := 0) (List.getElem?_eq_some_iff.1 HH1.out).1
 obtain ⟨s9, o9, hA9, hl9, p9, q9⟩ := hr9.knot (k := 0) (List.getElem?_eq_some_iff.1 HH2.out).1
 rw [(List.getElem?_eq_some_iff.1 HH1.out).2] at p8 q8
 rw [(List.getElem?_eq_some_iff.1 HH2.out).2] at p9 q9
 have n8 : 0 < O1.length := (List.getElem?_eq_some_iff.1 HH1.out).1
 have n9 : 0 < O2.length := (List.getElem?_eq_some_iff.1 HH2.out).1
 subst hA8 hA9
 simp only [Nat.zero_mul, Nat.add_zero] at p8 q8 p9 q9
 clear he8 he9 hO8 hO9 hb8 hb9 hP fhP hP_w8 fhP_w8 o1 o2 hZ hb19 hb1
 go_upto_region 2 with fail
 refine Z0z [0, 1, 2, 3, 4, 5, 6, 8] [(7, false), (9, false)] [10, 11] (by kernel_rfl) (by kernel_rfl) (fun d _ _ _ _ h => by cases d <;> exact h) ?_
 simp only [List.map_cons, List.map_nil, List.getD_cons_zero, List.getD_cons_succ]
 repeat (go_big_quiet_step (fail))
 refine wpQuiet_nil ?_
 refine Z11 rfl (fun K hK => ?_)
 go_simp
 refine (Zan O1 _ c8 _ (hr8.below (by (repeat first|exact J0|assumption|(apply J1;assumption)|apply J2|apply J3|apply J4))) (by omega) x1 y1 HE1.out).mono ?_
 rintro e w10 ⟨rfl, hb10⟩
 refine hK _ _ (by (repeat first|exact J0|assumption|(apply J1;assumption)|apply J2|apply J3|apply J4)) ?_
 clear hK K
 have hZ9_w10 := hZ9.below (show Below _ _ w10 by (repeat first|exact J0|assumption|(apply J1;assumption)|apply J2|apply J3|apply J4))
 have fhZ9_w10 := hZ9_w10.facts
 refine Z11 rfl (fun K hK => ?_)
 go_simp
 refine (Zan O2 _ c9 _ (hr9.below (by (repeat first|exact J0|assumption|(apply J1;assumption)|apply J2|apply J3|apply J4))) (by omega) x2 y2 HE2.out).mono ?_
 rintro e w11 ⟨rfl, hb11⟩
 refine hK _ _ (by (repeat first|exact J0|assumption|(apply J1;assumption)|apply J2|apply J3|apply J4)) ?_
 clear hK K
 have hZ9_w11 := hZ9.below (show Below _ _ w11 by (repeat first|exact J0|assumption|(apply J1;assumption)|apply J2|apply J3|apply J4))
 have fhZ9_w11 := hZ9_w11.facts
 refine Z10 ?_
 go_wp2_with (refine Z4n hZ9_w11 rfl _ _ _ rfl rfl rfl (by rfl) (by kernel_rfl) (by kernel_rfl) ?_; intro w12 hZ12 hc12; have f12 := hZ12.facts)
 refine bodyPost_ret (v := .agg #[.int .i64 a1, .int .i64 b1, .int .i64 a2, .int .i64 b2, .int .i64 x1, .int .i64 y1, .int .i64 x2, .int .i64 y2]) (by simp [results, Tryz.results186, go_sem, f12]) rfl ?_
 exact ⟨by rw [HC.out], Z9f (by (repeat first|exact J0|assumption|(apply J1;assumption)|apply J2|apply J3|apply J4)) hc12 (by omega)⟩
end Go.Proofs.YtpcgeihemkhkjaaGreatDoor

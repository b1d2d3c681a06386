/- Pack, walked. Conditions: bounds. -/
import Derived.Test.YtpcgeihemkhkjaaGreatDoorS30
import Derived.Test.YtpcgeihemkhkjaaGreatDoorS27
import Derived.Test.YtpcgeihemkhkjaaGreatDoorS15
namespace Go.Proofs.YtpcgeihemkhkjaaGreatDoor
open Go.RowKit Go.ChangeMaps
set_option maxHeartbeats 4000000
set_option maxRecDepth 100000
attribute [local go_sem] Oper.semAt_some
theorem Zon : Elem Tryz.prog 106 28 1 24 := ⟨by kernel_rfl, by kernel_rfl, by decide⟩
def rsA (ts : List SlV) : Array Value := (ts.map slV).toArray
theorem Zoo (ts : List SlV) (i : Nat) (t : SlV) : (rsA ts).setIfInBounds i (slV t) = rsA (ts.set i t) := by
 unfold rsA
 rw [List.setIfInBounds_toArray, List.map_set]
theorem Zop (n : Nat) : rowG rc n (fun _ => ((none, 0, 0) : SlV)) = rsA (List.replicate n (none, 0, 0)) := by
 unfold rowG rsA
 congr 1
 induction n with
 | zero => rfl
 | succ n ih => simp_all [List.range_succ, List.replicate_succ', rc]
theorem Zoq (w : World) (n : Nat) (hn : n ≤ 1000000) : (Instr.makeSlice 106 (.int .i64 (n : Int)) (.int .i64 (n : Int))).run Tryz.prog w = .ok (.slice (some ⟨w.heap.size, 0, none⟩) n n) (w.alloc (.cells (rsA (List.replicate n (none, 0, 0))) 28)) := by
 rw [← Zop]
 exact Zeo Zon Zd5 ((none, 0, 0) : SlV) (v := .slice none 0 0) (by kernel_rfl) rfl w n hn (by decide)
def RPPE (w : World) (ps : List (List Plc)) (n : Int) (e : Ending) (w' : World) : Prop := ∃ v, e = .returned (.tuple #[v, .int .i64 n]) ∧ SlPP w' v ps ∧ Below w.heap.size w w'
def Zor (base : Nat) (w : World) (v : Value) : Option (List Plc) → Prop
 | none => v = .slice none 0 0
 | some q => ∃ a c, v = .slice (some a) q.length c ∧ Own plc 3 base 100 w v q
theorem Zos {base : Nat} {w : World} {A : Option Addr} {c : Nat} {q : List Plc} (h : Own plc 3 base 100 w (.slice A q.length c) q) (hq : 0 < q.length) : ∃ a, A = some a := by
 obtain ⟨_, _, e, _, _, hr⟩ := h.rd Zj7
 simp only [Value.slice.injEq] at e
 obtain ⟨rfl, -, -⟩ := e
 obtain ⟨b, off, h1, _⟩ := hr 0 _ (List.getElem?_eq_getElem hq)
 exact ⟨_, h1⟩
@[go_sem] theorem idxB_0 (w : World) : (Instr.index 196 (.agg #[.bool false, .bool true]) (.int .i64 0)).run Tryz.prog w = .ok (.bool false) w := by kernel_rfl
@[go_sem] theorem idxB_1 (w : World) : (Instr.index 196 (.agg #[.bool false, .bool true]) (.int .i64 1)).run Tryz.prog w = .ok (.bool true) w := by kernel_rfl
theorem Zot {base : Nat} {w w' : World} {v : Value} {o : Option (List Plc)} (h : Zor base w v o) (hb : Below w.heap.size w w') : Zor base w' v o := by
 cases o with
 | none => exact h
 | some q =>
  obtain ⟨a, c, h1, h2⟩ := h; exact ⟨a, c, h1, h2.below hb⟩
theorem Zou {w : World} {g : Nat} {ts : List SlV} (h : Blk w g 28 (rsA ts)) (hl : ts.length ≤ 100000) : Sl rc 1 w (.slice (some ⟨g, 0, none⟩) ts.length ts.length) ts :=
 ⟨_, _, rfl, Nat.le_refl _, by simp [maxLen]; omega, fun i x hx => ⟨g, 0, rfl, h.lt, fun m u hu => by
  rw [h.cell]; match m, hu with
  | 0, hu =>
   obtain rfl : slV x = u := by simpa [rc] using hu
   obtain ⟨hi, rfl⟩ := List.getElem?_eq_some_iff.1 hx
   simp [rsA, List.getElem?_eq_getElem hi]⟩⟩
theorem Zov {A : Option Addr} {c : Nat} {v : Value} (stock : List Bal) (l : List Pan) (w : World) (hs : Rd blc 3 w A stock) (hsn : ∀ b ∈ stock, b.1.length ≤ 1000000) (hsl : stock.length ≤ 100000) (h : SlP w v l) (hnm : ∀ p ∈ l, p.1.length ≤ 1000000) (hll : l.length ≤ 100000) :
  Calls Tryz.prog 55 #[.slice A stock.length c, v] w (RPPE w (pakL stock l) (pakE stock l)) := by
 have hcs := fun W (hb : Below w.heap.size w W) => Zlw (A := A) (c := c) stock W (hs.below hb) hsn hsl
 have hcp := fun W (hb : Below w.heap.size w W) => Zm2 l W (h.below hb) hnm hll
 have hf2 : ∀ A c' W, Rd ic 1 W A [stoE stock, pieE l] → Calls Tryz.prog 56 #[.slice A 2 c'] W (RV W (.int .i64 (paaE stock l))) := fun A c' W hr => Zjd [stoE stock, pieE l] A c' W (by simp [maxLen]) hr
 by_cases hE : paaE stock l = 0
 ·obtain ⟨hS0, hE0⟩ : stoE stock = 0 ∧ pieE l = 0 := Z9l hE
  obtain ⟨hPL, hl16⟩ := Zjp hnm hE0
  obtain ⟨hs16, hSB⟩ := Zmz hS0
  have hm := fun W (hb : Below w.heap.size w W) => Zkc l W (h.below hb) hl16 hPL
  have HPE : Hid (pakE stock l = if (Zl0 stock l).isNone then 23 else 0) := by unfold Hid pakE; rw [if_neg (by simp [hE])]
  have HPLs : Hid (∀ ps, Zl0 stock l = some ps → pakE stock l = 0 ∧ pakL stock l = ps) := fun ps hq => by
   have e : pakE stock l = 0 := by rw [HPE.out, hq]; rfl
   exact ⟨e, by unfold pakL; rw [if_pos e, hq]; rfl⟩
  have HPN : Hid (Zl0 stock l = none → pakE stock l = 23 ∧ pakL stock l = []) := fun hq => by
   have e : pakE stock l = 23 := by rw [HPE.out, hq]; rfl
   exact ⟨e, by unfold pakL; rw [e, if_neg (by decide)]⟩
  have HP0 : Hid (Zl0 stock l = ((List.range l.length).drop 0).foldl (Zkz stock l) (some (List.replicate stock.length []))) := rfl
  have HPA := Lib.hid (fun ps k hk => Zn1 (stock := stock) (l := l) (ps := ps) (k := k) hk)
  have HPLL := Lib.hid hPL
  have HSB := Lib.hid (fun b hb => Zmo (hSB b hb))
  rw [hE] at hf2; rw [hS0] at hcs hf2; rw [hE0] at hcp hf2; have hmk := fun W => Zoq W stock.length (by omega)
  obtain ⟨xs, ⟨B, d, rfl, _, _, _⟩, hxl⟩ := h; have HXL := Lib.hid hxl.len
  have hxl1 : xs.length ≤ l.length := Nat.le_of_eq HXL.out
  have hxl2 : l.length ≤ xs.length := Nat.le_of_eq HXL.out.symm
  clear hE hS0 hE0 hSB hPL HPE hxl; go_enter Tryz.func55, Tryz.ntmps55
  go_upto_region 1 with fail; apply wp_scope_straight
  go_wp2_with fail; refine (hcs _ (by (repeat first|exact J0|assumption|(apply J1;assumption)|apply J2|apply J3|apply J4))).mono ?_
  rintro e w2 ⟨rfl, hb2⟩; go_wp2_with fail; refine (hcp _ (by (repeat first|exact J0|assumption|(apply J1;assumption)|apply J2|apply J3|apply J4))).mono ?_
  rintro e w3 ⟨rfl, hb3⟩; go_wp2_with fail; go_must (refine (hf2 _ _ _ (Rd.ints2 (by simp) (by go_simp) (by go_simp))).mono ?_)
  rintro e w4 ⟨rfl, hb4⟩; have hbw4 : Below w.heap.size w w4 := by (repeat first|exact J0|assumption|(apply J1;assumption)|apply J2|apply J3|apply J4)
  clear hcs hcp hf2 hb2 hb3 hb4; go_wp2_with fail; refine (hm _ hbw4).mono ?_
  rintro e w5 ⟨va, rfl, hWa, hb5⟩; obtain ⟨Aa, ca, rfl⟩ := hWa.shape; have hbw5 := Z08 hb5 hbw4
  have hG0 := Blk.new w5 28 (rsA (List.replicate stock.length (none, 0, 0)))
  have hb6 : Below w5.heap.size w5 (w5.alloc (.cells (rsA (List.replicate stock.length (none, 0, 0))) 28)) := Z04 Z03 _
  clear hm hb5 hbw4; go_upto_region 6 with fail; obtain ⟨w6, hw6⟩ : ∃ X, w5.alloc (.cells (rsA (List.replicate stock.length (none, 0, 0))) 28) = X := ⟨_, rfl⟩
  obtain ⟨gp, hgp⟩ : ∃ X, w5.heap.size = X := ⟨_, rfl⟩
  rw [hw6] at hG0 hb6; rw [hgp] at hG0; rw [hw6, hgp]; have HG : Hid (w5.heap.size = gp) := hgp
  have HPK0 : Hid (PkOk l 0 (List.replicate stock.length [])) := fun p hp => by
   obtain rfl := (List.mem_replicate.1 hp).2
   exact ⟨fun o ho => (by cases ho), fun o ho => (by cases ho), Nat.le_refl _⟩
  have HNX := Lib.hid (fun W va vp plan x ha hp' hx hi hn hl => Zlk (va := va) (vp := vp) l plan x W ha hp' HPLL.out hx hi hn hl)
  have HFT := Lib.hid (fun W va vp b plan ha hp' hi hn hl hb => Zme (va := va) (vp := vp) b l plan W ha hp' HPLL.out hi hn hl hb)
  have HLE := Lib.hid (fun W va vp plan ha hp' hi hn hl => Zma (va := va) (vp := vp) l plan W ha hp' HPLL.out hi hn hl)
  have hrows := Zmy.nils (base := w5.heap.size) (w := w6) stock.length
  clear hw6 hgp hmk; refine wp_label ?_
  go_wp2; go_loopw [32] (fun s wr => ∃ (k : Nat) (ps : List (List Plc)) (ts : List SlV), k ≤ xs.length ∧ s = .int .i64 k ∧ Hid (Zl0 stock l = ((List.range l.length).drop k).foldl (Zkz stock l) (some ps)) ∧ Hid (ps.length = stock.length) ∧ Hid (PkOk l k ps) ∧ Blk wr gp 28 (rsA ts) ∧ Zmy w5.heap.size wr ts ps ∧ Below w5.heap.size w5 wr) (fun i _ => xs.length - (intOf i).toNat)
  case atStart => exact ⟨0, _, _, Nat.zero_le _, rfl, HP0, (by simp [Hid]), HPK0, hG0, hrows, hb6⟩
  case round =>
   clear hG0 hrows hb6 HP0 HPK0; obtain ⟨k, ps, ts, hk, rfl, HK, HPL, HPO, hG, hR, hb6⟩ := hrel; obtain ⟨wo, rfl⟩ : ∃ x, x = wr := ⟨_, rfl⟩
   by_cases hlt : k < xs.length
   ·have hkl : k < l.length := by omega
    have HTL : Hid (ts.length = stock.length) := hR.len.trans HPL.out
    have HPB := Lib.hid (fun j hj hp => Zn2 (l := l) (i := k) (stock := stock) (ps := ps) (j := j) hj hp)
    have HPN1 := Lib.hid (HPA.out ps k hkl)
    have HOK := Lib.hid (fun p hp => HPO.out p hp)
    go_upto_region 9 with fail; go_wp2; go_loopw [37] (fun s wr => ∃ (j : Nat), j ≤ stock.length ∧ s = .int .i64 j ∧ Hid (putB l k stock ps = (putB l k (stock.drop j) (ps.drop j)).map (fun r => ps.take j ++ r)) ∧ Blk wr gp 28 (rsA ts) ∧ Zmy w5.heap.size wr ts ps ∧ Below w5.heap.size w5 wr) (fun i _ => stock.length - (intOf i).toNat)
    case atStart => exact ⟨0, Nat.zero_le _, rfl, (by unfold Hid; simp), hG, hR, hb6⟩
    case round =>
     clear hG hR hb6; obtain ⟨j, hj, rfl, HJ, hG, hR, hb6⟩ := hrel; obtain ⟨wm, rfl⟩ : ∃ x, x = wr := ⟨_, rfl⟩
     by_cases hlj : j < stock.length
     ·have hjp : j < ps.length := by rw [HPL.out]; exact hlj
      have hjt : j < ts.length := by rw [HTL.out]; exact hlj
      have HB1 := Lib.hid (HPB.out j hlj hjp)
      have hok := HOK.out _ (List.getElem_mem hjp)
      have hbk := HSB.out _ (List.getElem_mem hlj)
      have hRj := hR.get hjt hjp
      have hcellj : wm.cell? ⟨gp, j, none⟩ = some (slV ts[j]) := by
       rw [hG.cell]; simp [rsA, List.getElem?_eq_getElem hjt]
      have hbwm := Z08 hb6 hbw5
      obtain ⟨bS, oS, rfl, hb, c0, c1, c2⟩ := (hs.below hbwm).bal hlj
      obtain ⟨⟨nm, br, bl⟩, hbb⟩ : ∃ z, stock[j] = z := ⟨_, rfl⟩
      rw [hbb] at hbk c0 c1 c2 HB1; simp only at hbk c0 c1 c2
      obtain ⟨P, hP⟩ : ∃ z, ps[j] = z := ⟨_, rfl⟩
      rw [hP] at hok hRj HB1; obtain ⟨⟨t0, t1, t2⟩, ht⟩ : ∃ z, ts[j] = z := ⟨_, rfl⟩
      rw [ht] at hRj hcellj; have htl := Sl.size_ (hRj.rd Zj7)
      simp only at htl
      subst htl; simp only [slV] at hcellj; have hOkF := PkOk.cand HPLL.out hok hkl false
      have hOkT := PkOk.cand HPLL.out hok hkl true
      have HB2 := Lib.hid (Zn3 (nm, br, bl) l P k)
      have HBo : Hid (bstO (nm, br, bl) l P k 1 = if fitE (nm, br, bl) l (Zkx l P k false) = 0 then some (Zkx l P k false) else none) := rfl
      have HB0 : Hid (bstO (nm, br, bl) l P k 0 = none) := rfl
      have HBn : Hid (bstO (nm, br, bl) l P k 2 = onB (nm, br, bl) l P k) := rfl
      clear hbb; have hBl := Blk.new wm 27 #[.string ⟨nm.toArray⟩, .int .i64 br, .int .i64 bl]
      have hal : Below wm.heap.size wm (wm.alloc (.cells #[.string ⟨nm.toArray⟩, .int .i64 br, .int .i64 bl] 27)) := Z04 Z03 _
      go_upto_region 13 with fail; obtain ⟨wz, hwz⟩ : ∃ X, wm.alloc (.cells #[.string ⟨nm.toArray⟩, .int .i64 br, .int .i64 bl] 27) = X := ⟨_, rfl⟩
      obtain ⟨gb, hgb⟩ : ∃ X, wm.heap.size = X := ⟨_, rfl⟩
      rw [hwz, hgb] at hBl; rw [hwz] at hal; rw [hwz, hgb]; have HGB := Lib.hid hgb
      have hGz := hG.below hal
      have hRz := hR.map_ fun v L h => h.below hal
      have hb6z := Z08 hal hb6
      have hcz : wz.cell? ⟨gp, j, none⟩ = some (.slice t0 P.length t2) := (hal.cell (p := ⟨gp, j, none⟩) hG.lt).trans hcellj
      have hRjz := hRj.below hal
      have hgpz := hGz.lt
      clear hwz hgb c0 c1 c2 hb hal hcellj hRj hG hR hb6; go_wp2; go_loopw [12, 43] (fun s12 s wr => ∃ (t : Nat), t ≤ 2 ∧ s = .int .i64 t ∧ Zor wz.heap.size wr s12 (bstO (nm, br, bl) l P k t) ∧ Below wz.heap.size wz wr) (fun _ i _ => 2 - (intOf i).toNat)
      case atStart => exact ⟨0, by omega, rfl, (by rw [HB0.out]; rfl), Z03⟩
      case round =>
       obtain ⟨t, ht2, rfl, hbest, hbz⟩ := hrel; obtain ⟨wt, rfl⟩ : ∃ x, x = wr := ⟨_, rfl⟩
       have hGt := hGz.below hbz
       have hBt := hBl.below hbz
       have hct := (hbz.cell (p := ⟨gp, j, none⟩) hgpz).trans hcz
       have hRt := hRjz.below hbz
       have hb5t := Z08 hbz hb6z
       have fGt := hGt.lt
       obtain rfl | rfl | rfl : t = 0 ∨ t = 1 ∨ t = 2 := by omega
       ·have hw5t : Below w5.heap.size w5 wt := hb5t
        have hSlP := hRt.rd Zj7
        have hx0 : InP l ((k : Int), false, 0) := ⟨by simp only; omega, by simp only; omega⟩
        have hnx := fun W (hb : Below wt.heap.size wt W) => HNX.out W (.slice Aa l.length ca) (.slice t0 P.length t2) P ((k : Int), false, 0) (hWa.below (Z08 hb hw5t)) (hSlP.below hb) hx0 hok.1 (hok.2.1.mono (by omega)) (by have := hok.2.2; omega)
        have hcl := fun W (hb : Below wt.heap.size wt W) => Zmx P W (hSlP.below hb) (by have := hok.2.2; omega)
        have HCD : Hid (Zkx l P k false = P ++ [((k : Int), false, Zip l P ((k : Int), false, 0))]) := rfl
        have hqv : plV (Ziq l P ((k : Int), false, 0)) = .agg #[.int .i64 k, .bool false, .int .i64 (Zip l P ((k : Int), false, 0))] := rfl
        rw [hqv] at hnx; obtain ⟨na, hna⟩ : ∃ z, Zip l P ((k : Int), false, 0) = z := ⟨_, rfl⟩
        rw [hna] at hnx HCD; unfold plV at hnx; simp only at hnx
        have hPl : P.length ≤ 16 := by have := hok.2.2; omega
        have hzw : wz.heap.size ≤ wt.heap.size := hbz.size
        clear hqv hna; go_wp2; refine Z0z [0, 1, 2, 3, 5, 6, 7, 8, 9, 10, 11, 12] [(4, false)] [13, 14, 15, 16] (by kernel_rfl) (by kernel_rfl) (fun d _ _ _ _ h => by cases d <;> exact h) ?_
        simp only [List.map_cons, List.map_nil, List.getD_cons_zero, List.getD_cons_succ]; repeat (go_big_quiet_step (fail))
        refine wpQuiet_nil ?_; refine Z11 rfl (fun K hK => ?_); go_simp; refine (hcl _ (by (repeat first|exact J0|assumption|(apply J1;assumption)|apply J2|apply J3|apply J4))).mono ?_
        rintro e w7 ⟨v7, rfl, hO7, hb7⟩; refine hK _ _ (by (repeat first|exact J0|assumption|(apply J1;assumption)|apply J2|apply J3|apply J4)) ?_
        clear hK K; have hBt_w7 := hBt.below (show Below _ _ w7 by (repeat first|exact J0|assumption|(apply J1;assumption)|apply J2|apply J3|apply J4))
        have fhBt_w7 := hBt_w7.facts
        obtain ⟨A7, c7, rfl⟩ := hO7.shape; refine Z10 ?_; go_wp2_with fail; refine (hnx _ (by (repeat first|exact J0|assumption|(apply J1;assumption)|apply J2|apply J3|apply J4))).mono ?_
        rintro e w8 ⟨rfl, hb8⟩; have hO8 := (hO7.below hb8).base_mono (show wz.heap.size ≤ _ from hzw)
        have hbt8 : Below wt.heap.size wt w8 := by (repeat first|exact J0|assumption|(apply J1;assumption)|apply J2|apply J3|apply J4)
        have hu := Sl.oneG (enc := plc) (sz := 3) w8 100 ((k : Int), false, na) #[.int .i64 k, .bool false, .int .i64 na] rfl
        have hz8 : wz.heap.size ≤ w8.heap.size := Nat.le_trans hzw hbt8.size
        have hO8b := hO7.below hb8
        clear hnx hcl hb7 hO7 hct; go_wp2_with (at_builtin; refine Z3y rfl Zja Zj7 Zj9 _ _ rfl wt.heap.size _ _ _ [((k : Int), false, na)] rfl rfl (hO8b.alloc _) hu (by simp [maxLen]; omega) (by simp; omega) (by simp; have := hbt8.size; omega) ?_; intro v9 w9 hu9 hgr9; have fB8 := (hBt.below (Z09 hgr9 (Z04 hbt8 _) (fun j e => (hO8b.lt j e).1))).facts)
        have hbt9 : Below wt.heap.size wt w9 := Z09 hgr9 (Z04 hbt8 _) (fun j e => (hO8b.lt j e).1)
        rw [← HCD.out] at hu9; obtain ⟨Q, hQ⟩ : ∃ z, Zkx l P k false = z := ⟨_, rfl⟩
        have hQl : 0 < Q.length := by rw [← hQ, HCD.out]; simp
        rw [hQ] at hu9 hOkF HBo; have hQ16 : Q.length ≤ 1000 := by have := hOkF.2.2; omega
        obtain ⟨A9, c9, rfl⟩ := hu9.shape; obtain ⟨a9, rfl⟩ := Zos hu9 hQl
        have hSQ := hu9.rd Zj7
        have hB9 := hBt.below hbt9
        have fB9 := hB9.facts
        have hW9 := hWa.below (Z08 hbt9 hw5t)
        have hft := fun W (hb : Below w9.heap.size w9 W) => HFT.out W (.slice Aa l.length ca) (.slice (some a9) Q.length c9) (nm, br, bl) Q (hW9.below hb) (hSQ.below hb) hOkF.1 (hOkF.2.1.mono (by push_cast; omega)) hQ16 ⟨by have := hbk.2; simp only; omega, by have := hbk.2; simp only; omega⟩
        obtain ⟨E, hE⟩ : ∃ z, fitE (nm, br, bl) l Q = z := ⟨_, rfl⟩
        rw [hE] at hft HBo; unfold sV at hft; simp only at hft
        have hO9 := hu9.base_mono hzw
        have hbz9 := Z08 hbt9 hbz
        clear hO8 hO8b hu hgr9 hb8 hbt8 hQ; rw [HB0.out] at hbest; replace hbest : _ = Value.slice none 0 0 := hbest
        subst hbest; by_cases hq : E = 0
        ·have r1 : (E == 0) = true := by simp [hq]
         have HBS : Hid (bstO (nm, br, bl) l P k 1 = some Q) := by unfold Hid; rw [HBo.out, if_pos hq]
         clear hq; refine (hft _ (by (repeat first|exact J0|assumption|(apply J1;assumption)|apply J2|apply J3|apply J4))).mono ?_
         rintro e w10 ⟨rfl, hb10⟩; go_wp2; go_roundw; case rel => exact ⟨1, by omega, rfl, by rw [HBS.out]; exact ⟨_, _, rfl, hO9.below hb10⟩, Z08 hb10 hbz9⟩
         case measure => simp [intOf]
        ·have r1 : (E == 0) = false := by simp [hq]
         have HBS : Hid (bstO (nm, br, bl) l P k 1 = none) := by unfold Hid; rw [HBo.out, if_neg hq]
         clear hq; refine (hft _ (by (repeat first|exact J0|assumption|(apply J1;assumption)|apply J2|apply J3|apply J4))).mono ?_
         rintro e w10 ⟨rfl, hb10⟩; go_wp2; go_roundw; case rel => exact ⟨1, by omega, rfl, by rw [HBS.out]; rfl, Z08 hb10 hbz9⟩
         case measure => simp [intOf]
       ·have hw5t : Below w5.heap.size w5 wt := hb5t
        have hSlP := hRt.rd Zj7
        have hx0 : InP l ((k : Int), true, 0) := ⟨by simp only; omega, by simp only; omega⟩
        have hnx := fun W (hb : Below wt.heap.size wt W) => HNX.out W (.slice Aa l.length ca) (.slice t0 P.length t2) P ((k : Int), true, 0) (hWa.below (Z08 hb hw5t)) (hSlP.below hb) hx0 hok.1 (hok.2.1.mono (by omega)) (by have := hok.2.2; omega)
        have hcl := fun W (hb : Below wt.heap.size wt W) => Zmx P W (hSlP.below hb) (by have := hok.2.2; omega)
        have HCD : Hid (Zkx l P k true = P ++ [((k : Int), true, Zip l P ((k : Int), true, 0))]) := rfl
        have hqv : plV (Ziq l P ((k : Int), true, 0)) = .agg #[.int .i64 k, .bool true, .int .i64 (Zip l P ((k : Int), true, 0))] := rfl
        rw [hqv] at hnx; obtain ⟨na, hna⟩ : ∃ z, Zip l P ((k : Int), true, 0) = z := ⟨_, rfl⟩
        rw [hna] at hnx HCD; unfold plV at hnx; simp only at hnx
        have hPl : P.length ≤ 16 := by have := hok.2.2; omega
        have hzw : wz.heap.size ≤ wt.heap.size := hbz.size
        clear hqv hna; go_wp2; refine Z0z [0, 1, 2, 3, 5, 6, 7, 8, 9, 10, 11, 12] [(4, false)] [13, 14, 15, 16] (by kernel_rfl) (by kernel_rfl) (fun d _ _ _ _ h => by cases d <;> exact h) ?_
        simp only [List.map_cons, List.map_nil, List.getD_cons_zero, List.getD_cons_succ]; repeat (go_big_quiet_step (fail))
        refine wpQuiet_nil ?_; refine Z11 rfl (fun K hK => ?_); go_simp; refine (hcl _ (by (repeat first|exact J0|assumption|(apply J1;assumption)|apply J2|apply J3|apply J4))).mono ?_
        rintro e w7 ⟨v7, rfl, hO7, hb7⟩; refine hK _ _ (by (repeat first|exact J0|assumption|(apply J1;assumption)|apply J2|apply J3|apply J4)) ?_
        clear hK K; have hBt_w7 := hBt.below (show Below _ _ w7 by (repeat first|exact J0|assumption|(apply J1;assumption)|apply J2|apply J3|apply J4))
        have fhBt_w7 := hBt_w7.facts
        obtain ⟨A7, c7, rfl⟩ := hO7.shape; refine Z10 ?_; go_wp2_with fail; refine (hnx _ (by (repeat first|exact J0|assumption|(apply J1;assumption)|apply J2|apply J3|apply J4))).mono ?_
        rintro e w8 ⟨rfl, hb8⟩; have hO8 := (hO7.below hb8).base_mono (show wz.heap.size ≤ _ from hzw)
        have hbt8 : Below wt.heap.size wt w8 := by (repeat first|exact J0|assumption|(apply J1;assumption)|apply J2|apply J3|apply J4)
        have hu := Sl.oneG (enc := plc) (sz := 3) w8 100 ((k : Int), true, na) #[.int .i64 k, .bool true, .int .i64 na] rfl
        have hz8 : wz.heap.size ≤ w8.heap.size := Nat.le_trans hzw hbt8.size
        have hO8b := hO7.below hb8
        clear hnx hcl hb7 hO7 hct; go_wp2_with (at_builtin; refine Z3y rfl Zja Zj7 Zj9 _ _ rfl wt.heap.size _ _ _ [((k : Int), true, na)] rfl rfl (hO8b.alloc _) hu (by simp [maxLen]; omega) (by simp; omega) (by simp; have := hbt8.size; omega) ?_; intro v9 w9 hu9 hgr9; have fB8 := (hBt.below (Z09 hgr9 (Z04 hbt8 _) (fun j e => (hO8b.lt j e).1))).facts)
        have hbt9 : Below wt.heap.size wt w9 := Z09 hgr9 (Z04 hbt8 _) (fun j e => (hO8b.lt j e).1)
        rw [← HCD.out] at hu9; obtain ⟨Q, hQ⟩ : ∃ z, Zkx l P k true = z := ⟨_, rfl⟩
        have hQl : 0 < Q.length := by rw [← hQ, HCD.out]; simp
        rw [hQ] at hu9 hOkT HB2; have hQ16 : Q.length ≤ 1000 := by have := hOkT.2.2; omega
        obtain ⟨A9, c9, rfl⟩ := hu9.shape; obtain ⟨a9, rfl⟩ := Zos hu9 hQl
        have hSQ := hu9.rd Zj7
        have hB9 := hBt.below hbt9
        have fB9 := hB9.facts
        have hW9 := hWa.below (Z08 hbt9 hw5t)
        have hft := fun W (hb : Below w9.heap.size w9 W) => HFT.out W (.slice Aa l.length ca) (.slice (some a9) Q.length c9) (nm, br, bl) Q (hW9.below hb) (hSQ.below hb) hOkT.1 (hOkT.2.1.mono (by push_cast; omega)) hQ16 ⟨by have := hbk.2; simp only; omega, by have := hbk.2; simp only; omega⟩
        obtain ⟨E, hE⟩ : ∃ z, fitE (nm, br, bl) l Q = z := ⟨_, rfl⟩
        rw [hE] at hft HB2; unfold sV at hft; simp only at hft
        have hO9 := hu9.base_mono hzw
        have hbz9 := Z08 hbt9 hbz
        clear hO8 hO8b hu hgr9 hb8 hbt8 hQ; by_cases hq : E = 0
        ·have r1 : (E == 0) = true := by simp [hq]
         cases hO1 : bstO (nm, br, bl) l P k 1 with
         | none =>
          have HBS : Hid (bstO (nm, br, bl) l P k 2 = some Q) := by unfold Hid; rw [HB2.out, if_pos ⟨hq, fun q h => by rw [hO1] at h; cases h⟩]
          rw [hO1] at hbest; replace hbest : _ = Value.slice none 0 0 := hbest
          subst hbest; clear hq hO1; refine (hft _ (by (repeat first|exact J0|assumption|(apply J1;assumption)|apply J2|apply J3|apply J4))).mono ?_
          rintro e w10 ⟨rfl, hb10⟩; go_wp2; go_roundw; case rel => exact ⟨2, by omega, rfl, by rw [HBS.out]; exact ⟨_, _, rfl, hO9.below hb10⟩, Z08 hb10 hbz9⟩
          case measure => simp [intOf]
         | some q1 =>
          have hq1 : q1 = Zkx l P k false := by
           have h := HBo.out
           rw [hO1] at h; split at h
           ·exact Option.some.inj h
           ·cases h
          have hOk1 : InL l q1 ∧ Zlh q1 (5000 + 200003 * ((k + 1 : Nat) : Int)) ∧ q1.length ≤ k + 1 := by rw [hq1]; exact hOkF
          rw [hO1] at hbest; obtain ⟨a1, c1, rfl, hOb⟩ := hbest; have hOb9 := hOb.below hbt9
          have hSb := hOb9.rd Zj7
          have hle1 := fun W (hb : Below w9.heap.size w9 W) => HLE.out W (.slice Aa l.length ca) (.slice (some a9) Q.length c9) Q (hW9.below hb) (hSQ.below hb) hOkT.1 (hOkT.2.1.mono (by push_cast; omega)) hQ16
          have hle2 := fun W (hb : Below w9.heap.size w9 W) => HLE.out W (.slice Aa l.length ca) (.slice (some a1) q1.length c1) q1 (hW9.below hb) (hSb.below hb) hOk1.1 (hOk1.2.1.mono (by push_cast; omega)) (by have := hOk1.2.2; omega)
          have HB3 : Hid (bstO (nm, br, bl) l P k 2 = if lenP l Q < lenP l q1 then some Q else some q1) := by
           unfold Hid; rw [HB2.out, hO1]; by_cases hl : lenP l Q < lenP l q1
           ·rw [if_pos hl, if_pos ⟨hq, fun q h => by cases h; exact hl⟩]
           ·rw [if_neg hl, if_neg (fun h => hl (h.2 _ rfl))]
          obtain ⟨n1, hn1⟩ : ∃ z, lenP l Q = z := ⟨_, rfl⟩
          obtain ⟨n2, hn2⟩ : ∃ z, lenP l q1 = z := ⟨_, rfl⟩
          rw [hn1] at hle1 HB3; rw [hn2] at hle2 HB3; clear hq hO1 hq1 hOk1 hn1 hn2 hOb; refine (hft _ (by (repeat first|exact J0|assumption|(apply J1;assumption)|apply J2|apply J3|apply J4))).mono ?_
          rintro e w10 ⟨rfl, hb10⟩; go_wp2_with fail; refine (hle1 _ (by (repeat first|exact J0|assumption|(apply J1;assumption)|apply J2|apply J3|apply J4))).mono ?_
          rintro e w11 ⟨rfl, hb11⟩; go_wp2_with fail; refine (hle2 _ (by (repeat first|exact J0|assumption|(apply J1;assumption)|apply J2|apply J3|apply J4))).mono ?_
          rintro e w12 ⟨rfl, hb12⟩; have hb912 : Below w9.heap.size w9 w12 := Z08 hb12 (Z08 hb11 hb10)
          by_cases hl : n1 < n2
          ·have r2 : (n1 < n2) = True := eq_true hl
           have HBS : Hid (bstO (nm, br, bl) l P k 2 = some Q) := by unfold Hid; rw [HB3.out, if_pos hl]
           clear hl; go_wp2; go_roundw; case rel => exact ⟨2, by omega, rfl, by rw [HBS.out]; exact ⟨_, _, rfl, hO9.below hb912⟩, Z08 hb912 hbz9⟩
           case measure => simp [intOf]
          ·have r2 : (n1 < n2) = False := eq_false hl
           have HBS : Hid (bstO (nm, br, bl) l P k 2 = some q1) := by unfold Hid; rw [HB3.out, if_neg hl]
           clear hl; go_wp2; go_roundw; case rel => exact ⟨2, by omega, rfl, by rw [HBS.out]; exact ⟨_, _, rfl, hOb9.below hb912⟩, Z08 hb912 hbz9⟩
           case measure => simp [intOf]
        ·have r1 : (E == 0) = false := by simp [hq]
         have HBS : Hid (bstO (nm, br, bl) l P k 2 = bstO (nm, br, bl) l P k 1) := by unfold Hid; rw [HB2.out, if_neg (fun h => hq h.1)]
         clear hq; have hb2 := Zot hbest hbt9
         refine (hft _ (by (repeat first|exact J0|assumption|(apply J1;assumption)|apply J2|apply J3|apply J4))).mono ?_
         rintro e w10 ⟨rfl, hb10⟩; go_wp2; go_roundw; case rel => exact ⟨2, by omega, rfl, by rw [HBS.out]; exact Zot hb2 hb10, Z08 hb10 hbz9⟩
         case measure => simp [intOf]
       ·rw [HBn.out] at hbest
        have hRw := hRz.map_ fun v L h => h.below hbz
        have HPJ := Lib.hid hP
        cases hOn : onB (nm, br, bl) l P k with
        | none =>
         rw [hOn] at hbest; replace hbest : _ = Value.slice none 0 0 := hbest
         subst hbest
         have HJN : Hid (putB l k stock ps = (putB l k (stock.drop (j + 1)) (ps.drop (j + 1))).map (fun r => ps.take (j + 1) ++ r)) := by
          unfold Hid; rw [HJ.out, HB1.out, hOn, List.take_succ_eq_append_getElem hjp, hP]; simp only [Option.map_map]; congr 1
          funext r
          simp
         clear hOn hP; go_wp2; go_roundw; case rel => exact ⟨j + 1, by omega, by go_num, HJN, hGt, hRw, hb5t⟩
         case measure => simp [intOf]; omega
        | some q =>
         rw [hOn] at hbest; obtain ⟨a, c', rfl, hOq⟩ := hbest
         have HKN : Hid (Zl0 stock l = ((List.range l.length).drop (k + 1)).foldl (Zkz stock l) (some (ps.set j q))) := by
          unfold Hid; rw [HK.out, HPN1.out, HJ.out, HB1.out, hOn, List.set_eq_take_append_cons_drop, if_pos hjp]; rfl
         have HPON : Hid (PkOk l (k + 1) (ps.set j q)) := by
          obtain ⟨_, t, rfl⟩ := Zky hOn
          refine HPO.out.step.set j ?_
          cases t
          ·exact hOkF
          ·exact hOkT
         have HPLN : Hid ((ps.set j q).length = stock.length) := by unfold Hid; rw [List.length_set]; exact HPL.out
         have hG5 := hGt.set_ j (slV (some a, q.length, c'))
         rw [Zoo] at hG5; have hOq5 := (hOq.base_mono (show w5.heap.size ≤ wz.heap.size from hb6z.size)).set (p := ⟨gp, j, none⟩) (Ne.symm (hOq.ne_blk hGt (by decide))) (slV (some a, q.length, c'))
         have hR5 := (hRw.map_ fun v L h => h.set (p := ⟨gp, j, none⟩) (Ne.symm (h.ne_blk hGt (by decide))) (slV (some a, q.length, c'))).set (t := (some a, q.length, c')) hOq5 j
         have hb55 := Z07 hb5t (p := ⟨gp, j, none⟩) (by have := HG.out; simp only; omega) (slV (some a, q.length, c'))
         have fGt2 := hGt.facts
         simp only [slV] at hG5 hR5 hb55; clear hOn hP hOq; go_wp2; go_roundw; case rel => exact ⟨k + 1, ps.set j q, ts.set j (some a, q.length, c'), by omega, by go_num, HKN, HPLN, HPON, hG5, hR5, hb55⟩
         case measure => simp [intOf]; omega
     ·obtain rfl : j = stock.length := by omega
      have HNo : Hid (Zl0 stock l = none) := by
       unfold Hid; have e : putB l k stock ps = none := by rw [HJ.out, List.drop_length]; simp [putB]
       rw [HK.out, HPN1.out, e]; exact Zn0 _ _ _
      have HV := Lib.hid (HPN.out HNo.out)
      have hbw6 := Z08 hb6 hbw5
      go_wp2; rw [Exit.noGoto_ret]; refine bodyPost_ret (v := .tuple #[.slice none 0 0, .int .i64 23]) (by simp [results, Tryz.results55, go_sem]) rfl ?_
      exact ⟨_, by rw [HV.out.1], by rw [HV.out.2]; exact ⟨[], Sl.nil_, trivial⟩, hbw6⟩
   ·obtain rfl : k = xs.length := by omega
    have HSo : Hid (Zl0 stock l = some ps) := by unfold Hid; rw [HK.out, List.drop_of_length_le (by simp; omega)]; rfl
    have HV := Lib.hid (HPLs.out ps HSo.out)
    have hbw6 := Z08 hb6 hbw5
    have HTL : Hid (ts.length = stock.length) := hR.len.trans HPL.out
    go_wp2; rw [Exit.noGoto_ret]; refine bodyPost_ret (v := .tuple #[.slice (some ⟨gp, 0, none⟩) stock.length stock.length, .int .i64 0]) (by simp [results, Tryz.results55, go_sem]) rfl ?_
    exact ⟨_, by rw [HV.out.1], by rw [HV.out.2]; exact ⟨ts, by rw [← HTL.out]; exact Zou hG (by rw [HTL.out]; omega), hR.read⟩, hbw6⟩
 ·have t0 : (paaE stock l != 0) = true := by simp [hE]
  have HPE : Hid (pakE stock l = paaE stock l ∧ pakL stock l = []) := by
   have e : pakE stock l = paaE stock l := by unfold pakE; rw [if_pos hE]
   exact ⟨e, by unfold pakL; rw [e, if_neg hE]⟩
  rw [HPE.out.1, HPE.out.2]; obtain ⟨E, hEE⟩ : ∃ E, paaE stock l = E := ⟨_, rfl⟩
  rw [hEE] at hf2 t0 ⊢; obtain ⟨E1, hE1⟩ : ∃ E, stoE stock = E := ⟨_, rfl⟩
  obtain ⟨E2, hE2⟩ : ∃ E, pieE l = E := ⟨_, rfl⟩
  rw [hE1] at hcs hf2; rw [hE2] at hcp hf2; obtain ⟨xs, ⟨B, d, rfl, _, _, _⟩, _⟩ := h; clear hE hEE hE1 hE2 HPE; go_enter Tryz.func55, Tryz.ntmps55
  go_upto_region 1 with fail; apply wp_scope_straight
  go_wp2_with fail; refine (hcs _ (by (repeat first|exact J0|assumption|(apply J1;assumption)|apply J2|apply J3|apply J4))).mono ?_
  rintro e w2 ⟨rfl, hb2⟩; go_wp2_with fail; refine (hcp _ (by (repeat first|exact J0|assumption|(apply J1;assumption)|apply J2|apply J3|apply J4))).mono ?_
  rintro e w3 ⟨rfl, hb3⟩; go_wp2_with fail; go_must (refine (hf2 _ _ _ (Rd.ints2 (by simp) (by go_simp) (by go_simp))).mono ?_)
  rintro e w4 ⟨rfl, hb4⟩; go_wp2; rw [Exit.noGoto_ret]; refine bodyPost_ret (v := .tuple #[.slice none 0 0, .int .i64 E]) (by simp [results, Tryz.results55, go_sem]) rfl ?_
  exact ⟨_, rfl, ⟨[], Sl.nil_, trivial⟩, by (repeat first|exact J0|assumption|(apply J1;assumption)|apply J2|apply J3|apply J4)⟩
end Go.Proofs.YtpcgeihemkhkjaaGreatDoor

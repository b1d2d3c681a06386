/- Best, walked. Conditions: bounds. -/
import Derived.Test.YtpcgeihemkhkjaaGreatDoorS34
import Derived.Test.YtpcgeihemkhkjaaGreatDoorS30
import Derived.Test.YtpcgeihemkhkjaaGreatDoorS27
import Derived.Test.YtpcgeihemkhkjaaGreatDoorS28
import Derived.Test.YtpcgeihemkhkjaaGreatDoorS35
import Derived.Test.YtpcgeihemkhkjaaGreatDoorS36
import Derived.Test.YtpcgeihemkhkjaaGreatDoorS04
namespace Go.Proofs.YtpcgeihemkhkjaaGreatDoor
open Go.RowKit Go.ChangeMaps
set_option maxHeartbeats 4000000
set_option maxRecDepth 100000
attribute [local go_sem] Oper.semAt_some
theorem Zpj (N : Nat) (hN : N ≤ 100) : ∀ (k : Nat) (bg : List Plc), bg.length + k = N → OrdC N k bg
 | 0, bg, h => Zom N bg h hN
 | k + 1, bg, h => Zp0 N k bg h hN fun bg' h' => Zpj N hN k bg' h'
def Zpk (b : Bal) (l : List Pan) : Int := Z17 [balE b, pieE l, Z15 (decide (5 < l.length)) 22]
def bstR (b : Bal) (l : List Pan) : List Plc × Int × Int := if Zpk b l = 0 then (match Zkv b l with
 | none => ([], 0, 23)
 | some z => (z.1, z.2, 0)) else ([], 0, Zpk b l)
theorem Zpl {b : Bal} {l : List Pan} (h : Zpk b l = 0) : balE b = 0 ∧ pieE l = 0 ∧ l.length ≤ 5 := by
 unfold Zpk at h
 have h1 : balE b = 0 := by
  simp only [Z17] at h; split at h
  ·assumption
  ·exact h
 rw [h1] at h
 have h2 : pieE l = 0 := by
  simp only [Z17] at h; simp only [if_true] at h; split at h
  ·assumption
  ·exact h
 rw [h2] at h
 refine ⟨h1, h2, Classical.byContradiction fun hn => ?_⟩
 rw [decide_eq_true (by omega)] at h
 simp [Z17, Z15] at h
def BstV (base : Nat) (W : World) (v : Value) (n : Int) (f : Bool) : Option (List Plc × Int) → Prop
 | none => v = .slice none 0 0 ∧ n = 0 ∧ f = false
 | some z => Own plc 3 base 100 W v z.1 ∧ n = z.2 ∧ f = true
def Zpm (base g9 g10 g11 : Nat) (a : Option (List Plc × Int)) (W : World) : Prop := ∃ v n f, Blk W g9 28 #[v] ∧ Blk W g10 3 #[.int .i64 n] ∧ Blk W g11 4 #[.bool f] ∧ BstV base W v n f a
theorem Zpn {n : Nat} {o : List Plc} (h : o ∈ ordP n) : o.length = n ∧ ∀ x ∈ o, ∃ i : Nat, i < n ∧ x.1 = (i : Int) := by
 obtain ⟨r, rfl, h1, h2⟩ := Zkt n n [] o h
 exact ⟨by simpa using h1, by simpa using h2⟩
theorem Zpo {W : World} {g g' i : Nat} {t : TypeId} {cs : Array Value} {u : Value} (h : Blk W g t cs) (hne : g ≠ g') : Blk (W.setCell ⟨g', i, none⟩ u) g t cs := (Below.heap_setCell W ⟨g', i, none⟩ u g hne).trans h
theorem Zpp {b : Bal} {l : List Pan} {a : Option (List Plc × Int)} {pre : List OrX} {v : Value} {o Q : List Plc} (ha : (pre.map (·.2)).foldl (Zku b l) none = a) (hQ : layP l o = Q) : ((pre ++ [(v, o)]).map (·.2)).foldl (Zku b l) none = if fitE b l Q = 0 ∧ (∀ z, a = some z → lenP l Q < z.2) then some (Q, lenP l Q) else a := by
 rw [List.map_append, List.foldl_append, ha]
 show Zku b l a o = _
 unfold Zku
 rw [hQ]
 by_cases hc : fitE b l Q = 0 ∧ (∀ z, a = some z → lenP l Q < z.2)
 ·exact (if_pos hc).trans (if_pos hc).symm
 ·exact (if_neg hc).trans (if_neg hc).symm
theorem Zpq {W : World} {g : Nat} {t : TypeId} {cs : Array Value} (h : W.heap.size = g) : Blk (W.alloc (.cells cs t)) g t cs := h ▸ Blk.new W t cs
theorem Zpr {B base : Nat} {row : Option Nat} {W : World} {v : Value} {l : List Plc} (hO : Own plc 3 base 100 W v l) (hr : ∀ r, row = some r → B ≤ r ∧ ∃ o : Obj, W.heap[r]? = some o ∧ o.isCells = false) : v.ownBlock = none ∨ v.ownBlock ≠ row := by
 by_cases h : v.ownBlock = none
 ·exact .inl h
 ·refine .inr fun e => ?_
  obtain ⟨_, ⟨rfl, _⟩ | ⟨g, cap, cur, rfl, _, hc, _⟩⟩ := hO
  ·exact h rfl
  ·obtain ⟨_, o, ho, hnc⟩ := hr g e.symm
   rw [hc] at ho; cases ho
   simp [Obj.isCells] at hnc
theorem Zpm.from {base g9 g10 g11 B : Nat} {a : Option (List Plc × Int)} {W W' : World} {row : Option Nat} (h : Zpm base g9 g10 g11 a W) (hg : W.grownBy W' row) (hr : ∀ r, row = some r → B ≤ r ∧ ∃ o : Obj, W.heap[r]? = some o ∧ o.isCells = false) : Zpm base g9 g10 g11 a W' := by
 obtain ⟨v, n, f, h1, h2, h3, h4⟩ := h
 refine ⟨v, n, f, h1.grown hg (Z8b h1 hr), h2.grown hg (Z8b h2 hr), h3.grown hg (Z8b h3 hr), ?_⟩
 cases a with
 | none => exact h4
 | some z => exact ⟨h4.1.kept hg (Zpr h4.1 hr), h4.2⟩
theorem Zpm.below {base g9 g10 g11 : Nat} {a : Option (List Plc × Int)} {W W' : World} (h : Zpm base g9 g10 g11 a W) (hb : Below W.heap.size W W') : Zpm base g9 g10 g11 a W' := h.from (B := 0) (Z85 hb) (by simp)
theorem Zps {w W : World} {n0 D : Nat} (hb : Below n0 w W) (hn : n0 ≤ W.heap.size) (hD : n0 ≤ D) (o : Obj) : Below n0 w (W.putObj D o) := hb.grown (grownBy_putObj' W D o) hn (fun k e => by cases e; exact hD)
theorem Zpt {base D : Nat} {W : World} {v : Value} {l : List Plc} (h : Own plc 3 base 100 W v l) (hd : W.heap[D]? = some (.deferred (some []))) (o : Obj) : Own plc 3 base 100 (W.putObj D o) v l :=
 h.kept (grownBy_putObj' W D o) (Zpr (B := 0) h (fun r e => by cases e; exact ⟨Nat.zero_le _, _, hd, rfl⟩))
theorem Zpu {v : Value} (b : Bal) (l : List Pan) (w : World) (h : SlP w v l) (hnb : b.1.length ≤ 1000000) (hnm : ∀ p ∈ l, p.1.length ≤ 1000000) (hll : l.length ≤ 100000) :
  Calls Tryz.prog 10 #[.agg #[sV b.1, .int .i64 b.2.1, .int .i64 b.2.2], v] w (RPB w (bstR b l)) := by
 have hcb := fun W => Zjh b hnb W
 have hcp := fun W (hb : Below w.heap.size w W) => Zm2 l W (h.below hb) hnm hll
 have hf3 : ∀ A c' W, Rd ic 1 W A [balE b, pieE l, Z15 (decide (5 < l.length)) 22] → Calls Tryz.prog 56 #[.slice A 3 c'] W (RV W (.int .i64 (Zpk b l))) := fun A c' W hr => Zjd [balE b, pieE l, Z15 (decide (5 < l.length)) 22] A c' W (by simp [maxLen]) hr
 have HR : Hid (bstR b l = if Zpk b l = 0 then (match Zkv b l with
  | none => ([], 0, 23)
  | some z => (z.1, z.2, 0)) else ([], 0, Zpk b l)) := rfl
 have HOK := Lib.hid (Zpl (b := b) (l := l))
 have HPK := Lib.hid (fun (z : pieE l = 0) => Zjp hnm z)
 obtain ⟨xs, ⟨A, c, rfl, hlc, hcm, hr⟩, hx⟩ := h
 have HLN := Lib.hid hx.len
 have hl1 : xs.length ≤ l.length := Nat.le_of_eq HLN.out
 have hqi : decide (5 < (xs.length : Int)) = decide (5 < l.length) := decide_eq_decide.2 (by rw [HLN.out]; omega)
 have hmw := fun W (hb : Below w.heap.size w W) (h1 : l.length ≤ 16) (h2 : PieL l) => Zkc l W (SlP.below ⟨xs, ⟨A, c, rfl, hlc, hcm, hr⟩, hx⟩ hb) h1 h2
 obtain ⟨q5, hq5⟩ : ∃ q, decide (5 < l.length) = q := ⟨_, rfl⟩
 rw [hq5] at hf3 hqi
 obtain ⟨BE, hBE⟩ : ∃ q, balE b = q := ⟨_, rfl⟩
 obtain ⟨PE, hPE⟩ : ∃ q, pieE l = q := ⟨_, rfl⟩
 obtain ⟨E, hE⟩ : ∃ q, Zpk b l = q := ⟨_, rfl⟩
 rw [hBE] at hcb hf3
 rw [hPE] at hcp hf3
 rw [hE] at hf3 HR HOK
 obtain ⟨nm, br, bl⟩ := b
 unfold sV at hcb ⊢
 simp only at hcb ⊢
 have hG2 := Blk.new w 27 #[.string ⟨nm.toArray⟩, .int .i64 br, .int .i64 bl]
 have fG2 := hG2.facts
 clear hq5 hBE hPE hE
 refine (callsIn_wide (n := 6)).1 ?_
 refine callsIn_of_wp_marks Tryz.func10 rfl trivial ?_ rfl
 simp only [Tryz.ntmps10, List.size_toArray, List.length_cons, List.length_nil, Nat.reduceAdd, Nat.reduceSub, Array.replicate_succ, Array.replicate_zero, List.push_toArray, List.append_toArray, List.nil_append, List.cons_append]
 gi_wp2_with (refine ⟨trivial, ?_⟩; gi_at_call 57; refine (callsIn_wide.2 (hcb _)).mono ?_; rintro e w2 ⟨rfl, hb2⟩)
 have hbw2 : Below w.heap.size w w2 := by (repeat first|exact J0|assumption|(apply J1;assumption)|apply J2|apply J3|apply J4)
 have hG22 := hG2.below hb2
 refine ⟨trivial, ?_⟩
 refine (callsIn_wide.2 (hcp _ hbw2)).mono ?_
 rintro e w3 ⟨rfl, hb3⟩
 gi_wp2_with fail
 refine ⟨trivial, ?_⟩
 refine (callsIn_wide.2 (Zjb _ 22 _)).mono ?_
 rintro e w4 ⟨rfl, hb4⟩
 gi_wp2_with fail
 refine ⟨trivial, ?_⟩
 go_must (refine (callsIn_wide.2 (hf3 _ _ _ (Rd.ints3 (by simp) (by go_simp) (by go_simp) (by go_simp)))).mono ?_)
 rintro e w5 ⟨rfl, hb5⟩
 have hb25 : Below w2.heap.size w2 w5 := by (repeat first|exact J0|assumption|(apply J1;assumption)|apply J2|apply J3|apply J4)
 have hbw5 := Z08 hb25 hbw2
 have hG25 := hG22.below hb25
 clear hcb hcp hf3 hb2 hb3 hb4 hb5 hG2 hG22 fG2 hqi hr hx
 by_cases hz : E = 0
 ·have t0 : (E != 0) = false := by simp [hz]
  have HR2 : Hid (bstR (nm, br, bl) l = (match Zkv (nm, br, bl) l with
   | none => ([], 0, 23)
   | some z => (z.1, z.2, 0))) := by unfold Hid; rw [HR.out, if_pos hz]
  obtain ⟨hB0, hP0, hl5⟩ := HOK.out hz
  obtain ⟨hPL, hl16⟩ := HPK.out hP0
  have hbk := Zmo hB0
  have hmw2 := hmw w5 hbw5 hl16 hPL
  clear hz HR HOK HPK hmw hB0 hP0; gi_upto_region 4 with fail
  gi_wp2_with fail
  refine ⟨trivial, ?_⟩
  refine (callsIn_wide.2 hmw2).mono ?_
  rintro e w6 ⟨va, rfl, hWa, hb6⟩; obtain ⟨Aa, ca, rfl⟩ := hWa.shape; have hbw6 := Z08 hb6 hbw5
  have hG26 := hG25.below hb6
  clear hmw2 hb6 hG25 hb25 hbw5; gi_upto_region 7 with fail
  obtain ⟨n6, hn6⟩ : ∃ z, w6.heap.size = z := ⟨_, rfl⟩
  have hb67 : Below w6.heap.size w6 (w6.alloc (.cells #[.slice Aa l.length ca] 116)) := Z04 Z03 _
  have hG87 : Blk (w6.alloc (.cells #[.slice Aa l.length ca] 116)) n6 116 #[.slice Aa l.length ca] := Zpq hn6
  obtain ⟨w7, hw7⟩ : ∃ X, w6.alloc (.cells #[.slice Aa l.length ca] 116) = X := ⟨_, rfl⟩
  have hs7 : w7.heap.size = n6 + 1 := by rw [← hw7, ← hn6]; simp
  rw [hw7] at hb67 hG87; have hG27 := hG26.below hb67
  have hW7 := hWa.below hb67
  have hbw7 := Z08 hb67 hbw6
  rw [hw7, hn6]
  have hst : Zpm w.heap.size (n6 + 1) (n6 + 1 + 1) (n6 + 1 + 1 + 1) none (((w7.alloc (.cells #[.slice none 0 0] 28)).alloc (.cells #[.int .i64 0] 3)).alloc (.cells #[.bool false] 4)) :=
   ⟨_, _, _, ((Zpq hs7).alloc _).alloc _, (Zpq (by simp; omega)).alloc _, Zpq (by simp; omega), rfl, rfl, rfl⟩
  have hbz : Below w7.heap.size w7 (((w7.alloc (.cells #[.slice none 0 0] 28)).alloc (.cells #[.int .i64 0] 3)).alloc (.cells #[.bool false] 4)) := Z04 (Z04 (Z04 Z03 _) _) _
  have hsz : (((w7.alloc (.cells #[.slice none 0 0] 28)).alloc (.cells #[.int .i64 0] 3)).alloc (.cells #[.bool false] 4)).heap.size = n6 + 4 := by simp; omega
  obtain ⟨wz, hwz⟩ : ∃ X, ((w7.alloc (.cells #[.slice none 0 0] 28)).alloc (.cells #[.int .i64 0] 3)).alloc (.cells #[.bool false] 4) = X := ⟨_, rfl⟩
  rw [hwz] at hst hbz hsz; rw [hwz]; clear hwz hw7 hG26 hWa hbw6 hb67; gi_wp2_with (refine ⟨trivial, ?_⟩; gi_at_call 62; refine (callsIn_wide.2 (Zoj xs.length none 0 0 _)).mono ?_; rintro e w10 ⟨gn', gb', rfl, hGn', hGb', hge1, hge2, hb10⟩)
  have hst10 := hst.below hb10
  have hb710 := Z08 hb10 hbz
  obtain ⟨D2, hD2⟩ : ∃ z, w10.heap.size = z := ⟨_, rfl⟩
  have hD2z : n6 + 4 ≤ D2 := by rw [← hD2, ← hsz]; exact hb10.size
  have hOrd : ordG xs.length xs.length [] = ordP l.length := by rw [HLN.out]; rfl
  clear hst hbz hb10; refine Zoy (d := 12) (bg := []) (A := none) (c := 0) (T := [n6 + 1, n6 + 1 + 1, n6 + 1 + 1 + 1]) (I := fun (pre : List OrX) W => Zpm w.heap.size (n6 + 1) (n6 + 1 + 1) (n6 + 1 + 1 + 1) ((pre.map (·.2)).foldl (Zku (nm, br, bl) l) none) W ∧ Below w7.heap.size w7 W) (Zpj xs.length (by omega) xs.length [] (by simp)) hD2 (by omega) rfl hGn' hGb' ⟨none, 0, rfl, Nat.le_refl _, by simp [maxLen], fun i x h => by simp at h⟩ (by simp; omega) (by simp; omega) (fun b hb => by simp [Value.ownBlock] at hb) (fun b hb => by simp [Value.ownBlock] at hb) (by simp; omega) ?hI ?h0 ?hassign ?hbody ?hdone
  case hI =>
   rintro pre W W' row ⟨h1, h2⟩ hg hr
   exact ⟨h1.from hg hr, h2.grown hg h2.size (fun r e => by have := (hr r e).1; omega)⟩
  case h0 => exact ⟨hst10, hb710⟩
  case hassign =>
   intro x W K hK; gi_wp2
   exact hK
  case hbody =>
   rintro pre ⟨xv, o⟩ W ⟨r, hr⟩ hSx hnx ⟨h1, h2⟩
   have hoP : o ∈ ordP l.length := by rw [← hOrd, hr]; simp
   obtain ⟨hol, hoi⟩ := Zpn hoP
   have hin : InL l o := fun x hx => by obtain ⟨i, h1, h2⟩ := hoi x hx; unfold InP; omega
   obtain ⟨Ao, co, e, hoc, hocm, hro⟩ := hSx; have e : xv = .slice Ao o.length co := e
   subst e; have hW := hW7.below h2
   have hG8 := hG87.below h2
   have hG2 := hG27.below h2
   have f8 := hG8.facts
   have f2 := hG2.facts
   have HLI := Lib.hid (fun k hk => Zmi hin k hk)
   have HLN2 := Lib.hid (fun k hk => Zmj hPL hin k hk)
   have HLK := Lib.hid (fun k hk => Zmk l o k hk)
   have HLS := Lib.hid (fun k hk => Zir l (order := o) (k := k) hk)
   have HIN := Lib.hid hin
   have ho5 : o.length ≤ 5 := by omega
   have HOL := Lib.hid hol
   clear hin hoi hr hoP hol; gi_wp2
   gi_loopw [13, 38] (fun o13 i wr => ∃ k : Nat, k ≤ o.length ∧ i = .int .i64 k ∧ Own plc 3 W.heap.size 100 wr o13 (layP l (o.take k)) ∧ Below W.heap.size W wr) (fun _ i _ => o.length - (intOf i).toNat)
   case atStart => exact ⟨0, Nat.zero_le _, rfl, Own.nil_, Z03⟩
   case round =>
    obtain ⟨k, hk, rfl, hO, hb⟩ := hrel; obtain ⟨wo, rfl⟩ : ∃ x, x = wr := ⟨_, rfl⟩
    by_cases hlt : k < o.length
    ·obtain ⟨b, off, rfl, hbk, e0, e1, e2⟩ := (hro.below hb).plc hlt
     have hxin := HIN.out _ (List.getElem_mem hlt)
     have hls := Lib.hid (HLS.out k hlt)
     have hli := HLI.out k hk
     have hln := (HLN2.out k hk).mono (show (5000 : Int) + 200003 * (k : Int) ≤ 1000000000 by omega)
     have hlk := HLK.out k hk
     obtain ⟨P, hP⟩ : ∃ z, layP l (o.take k) = z := ⟨_, rfl⟩
     rw [hP] at hO hls hli hln hlk; obtain ⟨x, hxe⟩ : ∃ x, o[k] = x := ⟨_, rfl⟩
     rw [hxe] at e0 e1 e2 hxin hls; obtain ⟨Ap, cp, rfl⟩ := hO.shape; have hnext := fun W' (hb' : Below W.heap.size W W') (hp : SlL W' (.slice Ap P.length cp) P) => Zlk l P x W' (hW.below hb') hp hPL hxin hli hln (by omega)
     obtain ⟨y, hy⟩ : ∃ z, Ziq l P x = z := ⟨_, rfl⟩
     rw [hy] at hls hnext; obtain ⟨x0, x1, x2⟩ := x; obtain ⟨y0, y1, y2⟩ := y; unfold plV at hnext; simp only at hnext e0 e1 e2
     have hPl : P.length ≤ 10 := by omega
     clear hP hxe hy hxin hli hln hlk; have hX := Blk.new wo 100 #[.int .i64 x0, .bool x1, .int .i64 x2]
     gi_upto_region 13 with fail
     obtain ⟨wx, hwx⟩ : ∃ X, wo.alloc (.cells #[.int .i64 x0, .bool x1, .int .i64 x2] 100) = X := ⟨_, rfl⟩
     obtain ⟨gx, hgx⟩ : ∃ X, wo.heap.size = X := ⟨_, rfl⟩
     have hbo : Below wo.heap.size wo wx := by rw [← hwx]; exact Z04 Z03 _
     have hbx := Z08 hbo hb
     have hOx := hO.below hbo
     have hG8x := hG8.below hbx
     rw [hwx, hgx] at hX; rw [hwx, hgx]; clear hwx hgx e0 e1 e2 hbk hO f8 f2; have f8 := hG8x.facts
     have fX := hX.facts
     have hn2 := hnext wx hbx (hOx.rd Zj7)
     gi_wp2_with fail
     refine ⟨trivial, ?_⟩
     refine (CallsIn.inRound _ (callsIn_wide.2 hn2)).mono ?_
     rintro e w8 ⟨rfl, hb8⟩; have hO8 := hOx.below hb8
     have hb8W := Z08 hb8 hbx
     have hs8 : W.heap.size ≤ w8.heap.size := hb8W.size
     have hu8 := Sl.oneG (enc := plc) (sz := 3) w8 100 (y0, y1, y2) #[.int .i64 y0, .bool y1, .int .i64 y2] rfl
     clear hn2 hnext hb8 f8 fX; gi_wp2_with (gi_at_builtin; refine Z8a rfl Zja Zj7 Zj9 _ _ rfl W.heap.size _ _ _ [(y0, y1, y2)] rfl rfl (hO8.alloc _) hu8 (by simp [maxLen]; omega) (by simp; omega) (by simp; omega) ?_; intro v9 w9 hO9 hg9)
     have hb9 : Below W.heap.size W w9 := Z09 hg9 (Z04 hb8W _) (fun j e => (hO8.lt j e).1)
     try gi_wp2
     go_roundw; case rel => exact ⟨k + 1, by omega, by go_num, by rw [hls.out]; exact hO9, hb9⟩
     case measure => simp [intOf]; omega
    ·obtain rfl : k = o.length := by omega
     have hli := HLI.out o.length (Nat.le_refl _)
     have hln := HLN2.out o.length (Nat.le_refl _)
     have hlk := HLK.out o.length (Nat.le_refl _)
     rw [List.take_length] at hO hli hln hlk; obtain ⟨a, ha⟩ : ∃ z, (pre.map (·.2)).foldl (Zku (nm, br, bl) l) none = z := ⟨_, rfl⟩
     have h1' : Zpm w.heap.size (n6 + 1) (n6 + 1 + 1) (n6 + 1 + 1 + 1) a W := by rw [← ha]; exact h1
     obtain ⟨Q, hQ⟩ : ∃ z, layP l o = z := ⟨_, rfl⟩
     have HB := Lib.hid (Zpp (v := .slice Ao o.length co) ha hQ)
     rw [hQ] at hO hli hln hlk; have hQl : Q.length ≤ 10 := by omega
     have hwW : w.heap.size ≤ W.heap.size := (Z08 h2 hbw7).size
     obtain ⟨Aq, cq, rfl⟩ := hO.shape; obtain ⟨v, n, f, k1, k2, k3, k4⟩ := h1'; have hs4 : n6 + 4 ≤ W.heap.size := by have := k3.lt; omega
     have hle := Zma l Q wo (hW.below hb) (hO.rd Zj7) hPL hli (hln.mono (by omega)) (by omega)
     have hft := fun W' (hb' : Below W.heap.size W W') (hp : SlL W' (.slice Aq Q.length cq) Q) => Zme (nm, br, bl) l Q W' (hW.below hb') hp hPL hli (hln.mono (by omega)) (by omega) (by simp only; omega)
     obtain ⟨N, hN⟩ : ∃ z, lenP l Q = z := ⟨_, rfl⟩
     obtain ⟨F, hF⟩ : ∃ z, fitE (nm, br, bl) l Q = z := ⟨_, rfl⟩
     rw [hN] at hle HB; rw [hF] at hft HB; unfold sV at hft; simp only at hft
     have f8 := (hG8.below hb).facts
     clear h1 ha hQ hN hF hli hln hlk; gi_wp2_with fail
     refine ⟨trivial, ?_⟩
     refine (CallsIn.inRound _ (callsIn_wide.2 hle)).mono ?_
     rintro e w8 ⟨rfl, hb8⟩; have hb8W := Z08 hb8 hb
     have hO8 := hO.below hb8
     have f8 := (hG8.below hb8W).facts
     have f2 := (hG2.below hb8W).facts
     gi_wp2_with fail
     refine ⟨trivial, ?_⟩
     refine (CallsIn.inRound _ (callsIn_wide.2 (hft _ hb8W (hO8.rd Zj7)))).mono ?_
     rintro e w9 ⟨rfl, hb9'⟩; have hb9 := Z08 hb9' hb8W
     have hO9 := hO8.below hb9'
     have k19 := k1.below hb9
     have k29 := k2.below hb9
     have k39 := k3.below hb9
     have k49 : BstV w.heap.size w9 v n f a := by
      cases a with
      | none => exact k4
      | some z => exact ⟨k4.1.below hb9, k4.2⟩
     clear hle hft f8 f2 hO hO8 hb8 hb9' k1 k2 k3 k4; have f1 := k19.facts
     have f2 := k29.facts
     have f3 := k39.facts
     by_cases hF0 : F = 0
     ·have tF : (F == 0) = true := by simp [hF0]
      cases a with
      | none =>
       obtain ⟨rfl, rfl, rfl⟩ := k49; gi_wp2
       have i3 : Chg [n6 + 1, n6 + 1 + 1, n6 + 1 + 1 + 1] W (((w9.setCell ⟨n6 + 1, 0, none⟩ (.slice Aq Q.length cq)).setCell ⟨n6 + 1 + 1, 0, none⟩ (.int .i64 N)).setCell ⟨n6 + 1 + 1 + 1, 0, none⟩ (.bool true)) := (((Chg.of_below hb9).setIn (by simp) _).setIn (by simp) _).setIn (by simp) _
       refine ⟨⟨i3.size, fun q o hq ho _ => (i3.block q (Array.getElem?_eq_some_iff.1 ho).1 fun hm => by simp at hm; omega).trans ho⟩, i3.mono fun _ h => List.mem_cons_of_mem _ h, ?_, h2.trans (i3.below (by simp; omega) h2.size)⟩
       rw [HB.out, if_pos ⟨hF0, by simp⟩]
       exact ⟨_, _, _, Zpo (Zpo (k19.set_ 0 _) (by omega)) (by omega), Zpo ((Zpo k29 (by omega)).set_ 0 _) (by omega), (Zpo (Zpo k39 (by omega)) (by omega)).set_ 0 _, ((hO9.set (by intro e; have := (hO9.lt _ e).1; have := h2.size; simp only at *; omega) _).set (by intro e; have := (hO9.lt _ e).1; have := h2.size; simp only at *; omega) _).set (by intro e; have := (hO9.lt _ e).1; have := h2.size; simp only at *; omega) _ |>.base_mono hwW, rfl, rfl⟩
      | some z =>
       obtain ⟨k41, rfl, rfl⟩ := k49; obtain ⟨Av, cv, rfl⟩ := k41.shape; by_cases hlt2 : N < z.2
       ·have tN : (N < z.2) = True := eq_true hlt2
        gi_wp2
        have i3 : Chg [n6 + 1, n6 + 1 + 1, n6 + 1 + 1 + 1] W (((w9.setCell ⟨n6 + 1, 0, none⟩ (.slice Aq Q.length cq)).setCell ⟨n6 + 1 + 1, 0, none⟩ (.int .i64 N)).setCell ⟨n6 + 1 + 1 + 1, 0, none⟩ (.bool true)) := (((Chg.of_below hb9).setIn (by simp) _).setIn (by simp) _).setIn (by simp) _
        refine ⟨⟨i3.size, fun q o hq ho _ => (i3.block q (Array.getElem?_eq_some_iff.1 ho).1 fun hm => by simp at hm; omega).trans ho⟩, i3.mono fun _ h => List.mem_cons_of_mem _ h, ?_, h2.trans (i3.below (by simp; omega) h2.size)⟩
        rw [HB.out, if_pos ⟨hF0, fun y hy => by cases hy; exact hlt2⟩]
        exact ⟨_, _, _, Zpo (Zpo (k19.set_ 0 _) (by omega)) (by omega), Zpo ((Zpo k29 (by omega)).set_ 0 _) (by omega), (Zpo (Zpo k39 (by omega)) (by omega)).set_ 0 _, ((hO9.set (by intro e; have := (hO9.lt _ e).1; have := h2.size; simp only at *; omega) _).set (by intro e; have := (hO9.lt _ e).1; have := h2.size; simp only at *; omega) _).set (by intro e; have := (hO9.lt _ e).1; have := h2.size; simp only at *; omega) _ |>.base_mono hwW, rfl, rfl⟩
       ·have tN : (N < z.2) = False := eq_false hlt2
        gi_wp2
        refine ⟨Z84 hb9, Chg.of_below hb9, ?_, Z08 hb9 h2⟩
        rw [HB.out, if_neg (show ¬ (F = 0 ∧ ∀ y, some z = some y → N < y.2) from fun h => by have := h.2 z rfl; omega)]
        exact ⟨_, _, _, k19, k29, k39, k41, rfl, rfl⟩
     ·have tF : (F == 0) = false := by simp [hF0]
      gi_wp2
      refine ⟨Z84 hb9, Chg.of_below hb9, ?_, Z08 hb9 h2⟩
      rw [HB.out, if_neg fun h => hF0 h.1]
      exact ⟨v, n, f, k19, k29, k39, k49⟩
  case hdone =>
   rintro ys W hys ⟨⟨v, n, f, h1, h2, h3, h4⟩, h5⟩ hd
   rw [hys, hOrd] at h4; have h4 : BstV w.heap.size W v n f (Zkv (nm, br, bl) l) := h4
   have hbW : Below w.heap.size w W := Z08 h5 hbw7
   have hDw : w.heap.size ≤ D2 := by have := hbw7.size; omega
   obtain ⟨bp, hbp⟩ : ∃ z, Zkv (nm, br, bl) l = z := ⟨_, rfl⟩
   rw [hbp] at h4 HR2; have f1 := h1.facts
   have f2 := h2.facts
   have f3 := h3.facts
   cases bp with
   | none =>
    obtain ⟨rfl, rfl, rfl⟩ := h4; gi_wp2
    refine ⟨by simp, .inl ⟨_, _, rfl, run_takeDeferred hd, ?_⟩⟩
    refine ⟨.tuple #[.slice none 0 0, .int .i64 0, .int .i64 23], ?_, ?_⟩
    ·simp [results, go_sem]
    ·exact ⟨_, by rw [HR2.out], by rw [HR2.out]; exact Own.nil_, Zps hbW hbW.size hDw _⟩
   | some z =>
    obtain ⟨h41, rfl, rfl⟩ := h4; obtain ⟨Av, cv, rfl⟩ := h41.shape; gi_upto_region 20 with fail
    refine Z9v ?_
    refine Z81 [0, 1, 2, 3, 4] [] [] (fun _ => trivial) (by kernel_rfl) (by kernel_rfl) (by kernel_rfl) (fun _ _ _ _ _ h => h) ?_
    simp only [List.map_cons, List.map_nil, List.getD_cons_zero, List.getD_cons_succ]; repeat (go_big_quiet_step (fail))
    refine wpQuiet_nil ?_; refine Z82 ?_; gi_wp2_with fail
    simp only [Z9u]; gi_wp2
    have hd' : W.drew.heap[D2]? = some (.deferred (some [])) := hd
    refine ⟨by simp, .inl ⟨_, _, rfl, run_takeDeferred hd', ?_⟩⟩
    refine ⟨.tuple #[.slice Av z.1.length cv, .int .i64 z.2, .int .i64 0], ?_, ?_⟩
    ·simp [results, go_sem]
    ·exact ⟨_, by rw [HR2.out], by rw [HR2.out]; exact Zpt h41.drew hd' _, Zps hbW.drew hbW.size hDw _⟩
 ·have t0 : (E != 0) = true := by simp [hz]
  have HR2 : Hid (bstR (nm, br, bl) l = ([], 0, E)) := by unfold Hid; rw [HR.out, if_neg hz]
  clear hz HR HOK HPK hmw; gi_wp2
  refine ⟨.tuple #[.slice none 0 0, .int .i64 0, .int .i64 E], ?_, ?_⟩
  ·simp [results, go_sem]
  ·exact ⟨_, by rw [HR2.out], by rw [HR2.out]; exact Own.nil_, hbw5⟩
def gapE (a c : Pan) : Int := Z17 [pieE [a], pieE [c]]
def Zpv (a c : Pan) (i : Nat) (v : Value) (W : World) : Prop :=
 (i = 1 → ∃ A, v = .slice A 1 1 ∧ SlP W v [a]) ∧ (i = 2 → v = .int .i64 (pieE [a])) ∧ (i = 4 → ∃ A, v = .slice A 1 1 ∧ SlP W v [c])
theorem Zpw (a c : Pan) : ∀ i v W W', Zpv a c i v W → Below W.heap.size W W' → Zpv a c i v W' := fun i v W W' h hb =>
 ⟨fun hi => by obtain ⟨A, h1, h2⟩ := h.1 hi; exact ⟨A, h1, h2.below hb⟩, h.2.1, fun hi => by obtain ⟨A, h1, h2⟩ := h.2.2 hi; exact ⟨A, h1, h2.below hb⟩⟩
theorem Zpx {w : World} {x : PnV} {p : Pan} (h : PnAt w x p) : SlP (w.alloc (.cells #[sV x.1, .int .i64 x.2.1, slV x.2.2.1, slV x.2.2.2] 97)) (.slice (some ⟨w.heap.size, 0, none⟩) 1 1) [p] :=
 ⟨[x], Sl.oneG (enc := pnc) (sz := 4) w _ x _ rfl, h.below (Z04 Z03 _), trivial⟩
theorem Zpy {p : Pan} (hn : p.1.length ≤ 1000000) (h : pieE [p] = 0) : Zjm p := (Zjp (fun q hq => by rw [List.mem_singleton.1 hq]; exact hn) h).1 p (List.mem_singleton.2 rfl)
theorem Zpz {vL vR uL uR : Value} (a c : Pan) (w : World) (hna : a.1.length ≤ 1000000) (hnc : c.1.length ≤ 1000000) (hL : SlE w vL a.2.2.1) (hR : SlE w vR a.2.2.2) (kL : SlE w uL c.2.2.1) (kR : SlE w uR c.2.2.2) :
  Calls Tryz.prog 50 #[.agg #[sV a.1, .int .i64 a.2.1, vL, vR], .agg #[sV c.1, .int .i64 c.2.1, uL, uR]] w (RV w (.tuple #[.int .i64 (Zfc (gapE a c) (gapB (Z6y a) (Z6y c))), .int .i64 (gapE a c)])) := by
 have hp1 := fun W v (h : SlP W v [a]) => Zm2 [a] W h (fun q hq => by rw [List.mem_singleton.1 hq]; exact hna) (by simp)
 have hp2 := fun W v (h : SlP W v [c]) => Zm2 [c] W h (fun q hq => by rw [List.mem_singleton.1 hq]; exact hnc) (by simp)
 have hf2 : ∀ A c' W, Rd ic 1 W A [pieE [a], pieE [c]] → Calls Tryz.prog 56 #[.slice A 2 c'] W (RV W (.int .i64 (gapE a c))) := fun A c' W hr => Zjd [pieE [a], pieE [c]] A c' W (by simp [maxLen]) hr
 have hs1 := fun W (hb : Below w.heap.size w W) (hE : pieE [a] = 0) => Zka a W hna (hL.below hb) (hR.below hb) (Zpy hna hE).er (Zpy hna hE).nt
 have hs2 := fun W (hb : Below w.heap.size w W) (hE : pieE [c] = 0) => Zka c W hnc (kL.below hb) (kR.below hb) (Zpy hnc hE).er (Zpy hnc hE).nt
 have HS1 := Lib.hid hs1
 have HS2 := Lib.hid hs2
 have HG := Lib.hid (fun (h1 : pieE [a] = 0) (h2 : pieE [c] = 0) => show Zlb a ∧ Zlb c from ⟨Zlc (Zpy hna h1).er, Zlc (Zpy hnc h2).er⟩)
 have HZ : Hid (gapE a c = 0 → pieE [a] = 0 ∧ pieE [c] = 0) := fun h => Z9l h
 have HN : Hid (∀ z, gapE a c ≠ 0 → Zfc (gapE a c) z = 0) := fun z h => by unfold Zfc; rw [if_neg h]
 clear hs1 hs2
 obtain ⟨AL, cL, rfl, hL1, hL2, hL3⟩ := hL
 obtain ⟨AR, cR, rfl, hR1, hR2, hR3⟩ := hR
 obtain ⟨BL, dL, rfl, kL1, kL2, kL3⟩ := kL
 obtain ⟨BR, dR, rfl, kR1, kR2, kR3⟩ := kR
 have HPA : Hid (PnAt w (a.1, a.2.1, (AL, a.2.2.1.length, cL), (AR, a.2.2.2.length, cR)) a) := ⟨rfl, rfl, ⟨AL, cL, rfl, hL1, hL2, hL3⟩, ⟨AR, cR, rfl, hR1, hR2, hR3⟩⟩
 have HPC : Hid (PnAt w (c.1, c.2.1, (BL, c.2.2.1.length, dL), (BR, c.2.2.2.length, dR)) c) := ⟨rfl, rfl, ⟨BL, dL, rfl, kL1, kL2, kL3⟩, ⟨BR, dR, rfl, kR1, kR2, kR3⟩⟩
 unfold sV at HS1 HS2 ⊢
 have hA := (Blk.new w 97 #[.string ⟨a.1.toArray⟩, .int .i64 a.2.1, .slice AL a.2.2.1.length cL, .slice AR a.2.2.2.length cR]).alloc (.cells #[.string ⟨c.1.toArray⟩, .int .i64 c.2.1, .slice BL c.2.2.1.length dL, .slice BR c.2.2.2.length dR] 97)
 have hC := Blk.new1 w (.cells #[.string ⟨a.1.toArray⟩, .int .i64 a.2.1, .slice AL a.2.2.1.length cL, .slice AR a.2.2.2.length cR] 97) 97 #[.string ⟨c.1.toArray⟩, .int .i64 c.2.1, .slice BL c.2.2.1.length dL, .slice BR c.2.2.2.length dR]
 go_enter Tryz.func50, Tryz.ntmps50
 go_upto_region 1 with fail
 obtain ⟨w1, hw1⟩ : ∃ X, (w.alloc (.cells #[.string ⟨a.1.toArray⟩, .int .i64 a.2.1, .slice AL a.2.2.1.length cL, .slice AR a.2.2.2.length cR] 97)).alloc (.cells #[.string ⟨c.1.toArray⟩, .int .i64 c.2.1, .slice BL c.2.2.1.length dL, .slice BR c.2.2.2.length dR] 97) = X := ⟨_, rfl⟩
 have hb1 : Below w.heap.size w w1 := by rw [← hw1]; exact Z04 (Z04 Z03 _) _
 rw [hw1] at hA hC ⊢
 clear hw1 hL1 hL2 hL3 hR1 hR2 hR3 kL1 kL2 kL3 kR1 kR2 kR3
 have fA := hA.facts
 have fC := hC.facts
 refine Z4k (Zpv a c) [0, 3] [] [1, 2, 4] [5, 6, 7, 8] (by decide) (by kernel_rfl) (by kernel_rfl) (fun d _ _ _ _ h => by cases d <;> exact h) (Zpw a c) ?_
 simp only [List.map_cons, List.map_nil, List.getD_cons_zero, List.getD_cons_succ]
 repeat (go_big_quiet_step (fail))
 refine wpQuiet_nil ⟨List.forall_mem_cons.2 ⟨?_, List.forall_mem_cons.2 ⟨?_, List.forall_mem_cons.2 ⟨?_, List.forall_mem_nil _⟩⟩⟩, ?_⟩
 ·intro vals W hbW hF
  refine Z4l (fun K hK => ?_)
  simp only [Z44, Array.getD_eq_getD_getElem?, List.getElem?_toArray, List.getElem?_cons_succ, List.getElem?_cons_zero, Option.getD_some, List.getD_cons_succ, List.getD_cons_zero, Act.put, List.setIfInBounds_toArray, List.set_cons_zero, List.set_cons_succ]; go_simp; exact hK _ _ _ rfl (Z04 Z03 _) ⟨fun _ => ⟨_, rfl, Zpx (HPA.out.below (Z08 hbW hb1))⟩, fun h => by simp at h, fun h => by simp at h⟩ (fun h => by simp at h)
 ·intro vals W hbW hF
  refine Z4l (fun K hK => ?_)
  simp only [Z44, Array.getD_eq_getD_getElem?, List.getElem?_toArray, List.getElem?_cons_succ, List.getElem?_cons_zero, Option.getD_some, List.getD_cons_succ, List.getD_cons_zero, Act.put, List.setIfInBounds_toArray, List.set_cons_zero, List.set_cons_succ]; obtain ⟨A1, hv1, hS1⟩ := (hF 1 (of_decide_eq_true (by kernel_rfl))).1 rfl
  rw [hv1] at hS1; rw [hv1]; go_simp; refine (hp1 _ _ hS1).mono ?_
  rintro e w7 ⟨rfl, hb7⟩; exact hK _ _ _ (by rw [← hv1]; rfl) hb7 ⟨fun h => by simp at h, fun _ => rfl, fun h => by simp at h⟩ (fun h => by simp at h)
 ·intro vals W hbW hF
  refine Z4l (fun K hK => ?_)
  simp only [Z44, Array.getD_eq_getD_getElem?, List.getElem?_toArray, List.getElem?_cons_succ, List.getElem?_cons_zero, Option.getD_some, List.getD_cons_succ, List.getD_cons_zero, Act.put, List.setIfInBounds_toArray, List.set_cons_zero, List.set_cons_succ]; go_simp; exact hK _ _ _ rfl (Z04 Z03 _) ⟨fun h => by simp at h, fun h => by simp at h, fun _ => ⟨_, rfl, Zpx (HPC.out.below (Z08 hbW hb1))⟩⟩ (fun h => by simp at h)
 ·intro vals W hbW hF hAp
  simp only [Z44, Array.getD_eq_getD_getElem?, List.getElem?_toArray, List.getElem?_cons_succ, List.getElem?_cons_zero, Option.getD_some, Act.put, List.setIfInBounds_toArray, List.set_cons_zero, List.set_cons_succ]; obtain ⟨A1, hv1, hS1⟩ := (hF 1 (by simp)).1 rfl
  have hv2 := (hF 2 (by simp)).2.1 rfl
  obtain ⟨A4, hv4, hS4⟩ := (hF 4 (by simp)).2.2 rfl
  rw [hv4] at hS4; rw [hv1, hv2, hv4]; have hAW := hA.below hbW
  have hCW := hC.below hbW
  have hbw := Z08 hbW hb1
  clear hF hAp hv1 hv2 hv4 hS1 hA hC fA fC hbW hp1; obtain ⟨E1, hE1⟩ : ∃ z, pieE [a] = z := ⟨_, rfl⟩
  obtain ⟨E2, hE2⟩ : ∃ z, pieE [c] = z := ⟨_, rfl⟩
  rw [hE2] at hp2; rw [hE1, hE2] at hf2 HZ HG; rw [hE1] at HS1; rw [hE2] at HS2; rw [hE1]; obtain ⟨E, hEE⟩ : ∃ z, gapE a c = z := ⟨_, rfl⟩
  rw [hEE] at hf2 HZ HN; have HEE := Lib.hid hEE
  clear hE1 hE2 hEE; go_wp2_with fail; refine (hp2 _ _ hS4).mono ?_
  rintro e w3 ⟨rfl, hb3⟩; go_wp2_with fail; go_must (refine (hf2 _ _ _ (Rd.ints2 (by simp) (by go_simp) (by go_simp))).mono ?_)
  rintro e w4 ⟨rfl, hb4⟩; have hA4 := hAW.below (show Below _ _ w4 by (repeat first|exact J0|assumption|(apply J1;assumption)|apply J2|apply J3|apply J4))
  have hC4 := hCW.below (show Below _ _ w4 by (repeat first|exact J0|assumption|(apply J1;assumption)|apply J2|apply J3|apply J4))
  have hbw4 : Below w.heap.size w w4 := by (repeat first|exact J0|assumption|(apply J1;assumption)|apply J2|apply J3|apply J4)
  have fA4 := hA4.facts
  have fC4 := hC4.facts
  clear hb3 hb4 hAW hCW hbw hp2 hf2 hS4; by_cases hz : E = 0
  ·have t0 : (E != 0) = false := by simp [hz]
   obtain ⟨z1, z2⟩ := HZ.out hz
   obtain ⟨g1, g2⟩ := HG.out z1 z2
   have hmin : 0 < minL (Z6y a) (Z6y c) := by have := g1.pos; have := g2.pos; unfold minL; omega
   have hfa := g1.few
   have hfc := g2.few
   have HGP := Lib.hid (fun W x y (hx : WyAt W x a) (hy : WyAt W y c) => show Calls Tryz.prog 111 #[.agg #[slV x.1, .int .i64 x.2.1, .int .i64 x.2.2.1, slV x.2.2.2], .agg #[slV y.1, .int .i64 y.2.1, .int .i64 y.2.2.1, slV y.2.2.2]] W (RV W (.int .i64 (gapB (Z6y a) (Z6y c)))) from by
    obtain ⟨⟨x0, x1, x2⟩, x3, x4, ⟨x5, x6, x7⟩⟩ := x; obtain ⟨⟨y0, y1, y2⟩, y3, y4, ⟨y5, y6, y7⟩⟩ := y; have s1 := hx.stl
    have s2 := hy.stl
    simp only at s1 s2
    subst s1 s2; obtain ⟨_, _, he1, _, _, r1⟩ := hx.st; obtain ⟨_, _, he2, _, _, r2⟩ := hy.st; simp only [slV, Value.slice.injEq] at he1 he2; obtain ⟨rfl, -, rfl⟩ := he1; obtain ⟨rfl, -, rfl⟩ := he2; exact Zjy (Z6y a) (Z6y c) g1.near g2.near hmin (by omega) (by omega) r1 r2)
   have HON : Hid (∀ z, Zfc E z = z) := fun z => by unfold Zfc; rw [if_pos hz]
   have HSA := Lib.hid (fun W hb => HS1.out W hb z1)
   have HSC := Lib.hid (fun W hb => HS2.out W hb z2)
   obtain ⟨G, hG⟩ : ∃ z, gapB (Z6y a) (Z6y c) = z := ⟨_, rfl⟩
   rw [hG] at HGP; have HGG := Lib.hid hG
   subst hz; clear hG HS1 HS2 HZ HG g1 g2 hmin hfa hfc z1 z2 HN; go_upto_region 4 with fail; refine Z0z [0, 2] [(1, false)] [3, 4, 5, 6] (by kernel_rfl) (by kernel_rfl) (fun d _ _ _ _ h => by cases d <;> exact h) ?_
   simp only [List.map_cons, List.map_nil, List.getD_cons_zero, List.getD_cons_succ]; repeat (go_big_quiet_step (fail))
   refine wpQuiet_nil ?_; refine Z11 rfl (fun K hK => ?_); go_simp; refine (HSA.out _ (by (repeat first|exact J0|assumption|(apply J1;assumption)|apply J2|apply J3|apply J4))).mono ?_
   rintro e w5 ⟨x5, rfl, hx5, hb5⟩; refine hK _ _ (by (repeat first|exact J0|assumption|(apply J1;assumption)|apply J2|apply J3|apply J4)) ?_
   clear hK K; have hC4_w5 := hC4.below (show Below _ _ w5 by (repeat first|exact J0|assumption|(apply J1;assumption)|apply J2|apply J3|apply J4))
   have fhC4_w5 := hC4_w5.facts
   refine Z10 ?_; go_wp2_with fail; refine (HSC.out _ (by (repeat first|exact J0|assumption|(apply J1;assumption)|apply J2|apply J3|apply J4))).mono ?_
   rintro e w6 ⟨x6, rfl, hx6, hb6⟩; go_wp2_with fail; refine (HGP.out _ x5 x6 (hx5.at_.below (by (repeat first|exact J0|assumption|(apply J1;assumption)|apply J2|apply J3|apply J4))) hx6.at_).mono ?_
   rintro e w7 ⟨rfl, hb7⟩; go_wp2; refine bodyPost_ret (v := .tuple #[.int .i64 G, .int .i64 0]) (by simp [results, Tryz.results50, go_sem]) rfl ?_
   exact ⟨by rw [HEE.out, HGG.out, HON.out], by (repeat first|exact J0|assumption|(apply J1;assumption)|apply J2|apply J3|apply J4)⟩
  ·have t0 : (E != 0) = true := by simp [hz]
   have HZ0 := Lib.hid (HN.out (gapB (Z6y a) (Z6y c)) hz)
   clear hz; go_wp2; refine bodyPost_ret (v := .tuple #[.int .i64 0, .int .i64 E]) (by simp [results, Tryz.results50, go_sem]) rfl ?_
   exact ⟨by rw [HEE.out, HZ0.out], hbw4⟩
end Go.Proofs.YtpcgeihemkhkjaaGreatDoor

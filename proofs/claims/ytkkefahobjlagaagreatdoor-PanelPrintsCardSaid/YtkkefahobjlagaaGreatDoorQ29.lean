/- Numbers of panels, walked. Conditions: the variables are laid. -/
import Derived.Test.YtkkefahobjlagaaGreatDoorQ28
import Derived.Test.YtkkefahobjlagaaGreatDoorQ15
import Derived.Test.YtkkefahobjlagaaGreatDoorQ27
import Derived.Deep.CutRange
namespace Go.Proofs.YtkkefahobjlagaaGreatDoor
open Go.RowKit Go.ChangeMaps
set_option maxHeartbeats 4000000
set_option maxRecDepth 100000
attribute [local go_sem] Oper.semAt_some
def decR (s : Str) : Int × Bool := match Lib.atoiAll s with
 | .ok n => (n, decide (s.length ≤ 9) && decide (0 ≤ n) && decide (Lib.itoa n = s))
 | .range => (Lib.atoiSat s, false)
 | _ => (0, false)
theorem dec_any (s : Str) (hs : s.length ≤ 1000000) (w : World) (hL : Lay w) : Calls Tryz.prog 189 #[sV s] w (RV w (.tuple #[.int .i64 (decR s).1, .bool (decR s).2])) := by
 have hsz : (({ data := s.toArray } : ByteArray)).size = s.length := by simp [ByteArray.size]
 cases ha : Lib.atoiAll s
 ·rename_i v
  have hb := Lib.atoiAll_bounds ha
  have HR : Hid (decR s = (v, decide (s.length ≤ 9) && decide (0 ≤ v) && decide (Lib.itoa v = s))) := by unfold Hid decR; rw [ha]
  have hc : Calls Tryz.prog 222 #[sV s] w (RV w (.tuple #[.int .i64 v, .nilIface])) := by
   refine (str_strconv_Atoi_ok ⟨s.toArray⟩ (by rw [hsz]; omega) v ha w).mono ?_
   rintro e w' ⟨rfl, rfl | ⟨t, rfl⟩⟩
   ·exact ⟨rfl, bl_refl⟩
   ·exact ⟨rfl, rfl, rfl, rfl, by rw [Lib.bytesWorld_size]; omega, fun j hj => Lib.bytesWorld_at_old w _ t j hj⟩
  clear ha
  unfold sV at hc ⊢
  by_cases h1 : s.length ≤ 9
  ·by_cases h2 : 0 ≤ v
   ·have t1 : ((s.length : Int) ≤ 9) = True := eq_true (by omega)
    have t2 : (0 ≤ v) = True := eq_true h2
    have HR2 : Hid (decR s = (v, Lib.itoa v == s)) := by
     unfold Hid
     rw [HR.out, decide_eq_true h1, decide_eq_true h2]
     by_cases hq : Lib.itoa v = s <;> simp [hq]
    clear h1 h2 HR
    go_enter Tryz.func189, Tryz.ntmps189
    go_wp2_with fail
    refine hc.mono ?_
    rintro e w1 ⟨rfl, hb1⟩
    have hi := itoa_any' v hb w1 (hL.below hb1)
    go_wp2_with (go_at_call 98; refine hi.mono ?_; rintro e w2 ⟨rfl, hb2⟩)
    go_ret2
    exact ⟨by rw [HR2.out]; rfl, bl_then hb2 hb1⟩
   ·have t1 : ((s.length : Int) ≤ 9) = True := eq_true (by omega)
    have t2 : (0 ≤ v) = False := eq_false h2
    have HR2 : Hid (decR s = (v, false)) := by unfold Hid; rw [HR.out, decide_eq_false h2]; simp
    clear h1 h2 HR
    go_enter Tryz.func189, Tryz.ntmps189
    go_wp2_with fail
    refine hc.mono ?_
    rintro e w1 ⟨rfl, hb1⟩
    go_wp2
    go_ret2
    exact ⟨by rw [HR2.out]; rfl, hb1⟩
  ·have t1 : ((s.length : Int) ≤ 9) = False := eq_false (by omega)
   have HR2 : Hid (decR s = (v, false)) := by unfold Hid; rw [HR.out, decide_eq_false h1]; simp
   clear h1 HR
   go_enter Tryz.func189, Tryz.ntmps189
   go_wp2_with fail
   refine hc.mono ?_
   rintro e w1 ⟨rfl, hb1⟩
   go_wp2
   go_ret2
   exact ⟨by rw [HR2.out]; rfl, hb1⟩
 ·have HR : Hid (decR s = (0, false)) := by unfold Hid decR; rw [ha]
  obtain ⟨ev, hev, hev2⟩ := hL.es
  have hc : Calls Tryz.prog 222 #[sV s] w (fun e w' => ∃ N, e = .returned (.tuple #[.int .i64 (0), .iface 311 (.pointer (some ⟨N, 0, none⟩))]) ∧ w.heap.size ≤ N ∧ w'.heap[N]? = some (.cells #[.string ⟨#[65, 116, 111, 105]⟩, .string ⟨s.toArray⟩, ev] 325 (0, 0)) ∧ Below w.heap.size w w') :=
   Any.strconv_Atoi_syntax str_laysC172 ⟨s.toArray⟩ (by rw [hsz]; omega) ha ev w hev hev2
  clear ha
  unfold sV at hc ⊢
  go_enter Tryz.func189, Tryz.ntmps189
  go_wp2_with fail
  refine hc.mono ?_
  rintro e w1 ⟨N, rfl, hN, hNB, hb1⟩
  go_wp2
  go_ret2
  exact ⟨by rw [HR.out]; rfl, hb1⟩
 ·have HR : Hid (decR s = (Lib.atoiSat s, false)) := by unfold Hid decR; rw [ha]
  obtain ⟨ev, hev, hev2⟩ := hL.er
  have hc : Calls Tryz.prog 222 #[sV s] w (fun e w' => ∃ N, e = .returned (.tuple #[.int .i64 (Lib.atoiSat s), .iface 311 (.pointer (some ⟨N, 0, none⟩))]) ∧ w.heap.size ≤ N ∧ w'.heap[N]? = some (.cells #[.string ⟨#[65, 116, 111, 105]⟩, .string ⟨s.toArray⟩, ev] 325 (0, 0)) ∧ Below w.heap.size w w') :=
   Any.strconv_Atoi_range str_laysC172 ⟨s.toArray⟩ (by rw [hsz]; omega) ha ev w hev hev2
  clear ha
  unfold sV at hc ⊢
  go_enter Tryz.func189, Tryz.ntmps189
  go_wp2_with fail
  refine hc.mono ?_
  rintro e w1 ⟨N, rfl, hN, hNB, hb1⟩
  go_wp2
  go_ret2
  exact ⟨by rw [HR.out]; rfl, hb1⟩
structure PnOwn (base : Nat) (w : World) (x : PnV) (p : Pan) : Prop where
 nm : x.1 = p.1
 wd : x.2.1 = p.2.1
 left : Own ec 3 base 107 w (slV x.2.2.1) p.2.2.1
 right : Own ec 3 base 107 w (slV x.2.2.2) p.2.2.2
def PnsOwn (base : Nat) (w : World) : List PnV → List Pan → Prop
 | [], [] => True
 | x :: xs, p :: ps => PnOwn base w x p ∧ PnsOwn base w xs ps
 | _, _ => False
theorem PnOwn.to {base : Nat} {w w' : World} {x : PnV} {p : Pan} (f : ∀ v l, Own ec 3 base 107 w v l → Own ec 3 base 107 w' v l) (h : PnOwn base w x p) : PnOwn base w' x p := ⟨h.nm, h.wd, f _ _ h.left, f _ _ h.right⟩
theorem PnsOwn.to {base : Nat} {w w' : World} (f : ∀ v l, Own ec 3 base 107 w v l → Own ec 3 base 107 w' v l) : ∀ {xs : List PnV} {l : List Pan}, PnsOwn base w xs l → PnsOwn base w' xs l
 | [], [], _ => trivial
 | _ :: _, _ :: _, h => ⟨h.1.to f, h.2.to f⟩
 | [], _ :: _, h => h.elim
 | _ :: _, [], h => h.elim
theorem PnsOwn.snoc {base : Nat} {w : World} {x : PnV} {p : Pan} (hx : PnOwn base w x p) : ∀ {xs : List PnV} {l : List Pan}, PnsOwn base w xs l → PnsOwn base w (xs ++ [x]) (l ++ [p])
 | [], [], _ => ⟨hx, trivial⟩
 | _ :: _, _ :: _, h => ⟨h.1, PnsOwn.snoc hx h.2⟩
 | [], _ :: _, h => h.elim
 | _ :: _, [], h => h.elim
theorem PnsOwn.at_ {base : Nat} {w : World} : ∀ {xs : List PnV} {l : List Pan}, PnsOwn base w xs l → PnsAt w xs l
 | [], [], _ => trivial
 | _ :: _, _ :: _, h => ⟨⟨h.1.nm, h.1.wd, h.1.left.rd ec_len, h.1.right.rd ec_len⟩, h.2.at_⟩
 | [], _ :: _, h => h.elim
 | _ :: _, [], h => h.elim
theorem PnsOwn.len {base : Nat} {w : World} {xs : List PnV} {l : List Pan} (h : PnsOwn base w xs l) : xs.length = l.length := h.at_.len
def OpnAt (nb : Nat) (W : World) (x : PnV) : Option Pan → Prop
 | none => True
 | some p => ∃ nr : Nat, nb ≤ nr ∧ nr ≤ W.heap.size ∧ x.1 = p.1 ∧ x.2.1 = p.2.1 ∧ Own ec 3 nb 107 W (slV x.2.2.1) p.2.2.1 ∧ (∀ k, (slV x.2.2.1).ownBlock = some k → k < nr) ∧ Own ec 3 nr 107 W (slV x.2.2.2) p.2.2.2 ∧ (p.2.2.2 = [] → x.2.2.2 = (none, 0, 0))
def wPan : Str := [112, 97, 110, 101, 108]
def wLeft : Str := [108, 101, 102, 116]
def wRight : Str := [114, 105, 103, 104, 116]
def wEnd : Str := [101, 110, 100]
theorem Own.past {α : Type} {enc : α → List Value} {sz base g : Nat} {e t : TypeId} {w w' : World} {v : Value} {l : List α} {cs : Array Value} (ho : Own enc sz base e w v l) (hB : Blk w g t cs) (ht : t ≠ e) (hc : Chg [g] w w') : Own enc sz base e w' v l := ho.chg1 hc (Ne.symm (ho.ne_blk hB ht))
theorem PnsOwn.past {base g : Nat} {w w' : World} {cs : Array Value} {xs : List PnV} {l : List Pan} (h : PnsOwn base w xs l) (hB : Blk w g 172 cs) (hc : Chg [g] w w') : PnsOwn base w' xs l := h.to fun _ _ ho => ho.past hB (by decide) hc
theorem PnsOwn.below {base : Nat} {w w' : World} {xs : List PnV} {l : List Pan} (h : PnsOwn base w xs l) (hb : Below w.heap.size w w') : PnsOwn base w' xs l := h.to fun _ _ ho => ho.below hb
structure Kpt (base : Nat) (wb W : World) : Prop where
 own : ∀ v l, Own ec 3 base 107 wb v l → Own ec 3 base 107 W v l
 size : wb.heap.size ≤ W.heap.size
theorem Kpt.refl {base : Nat} {W : World} : Kpt base W W := ⟨fun _ _ h => h, Nat.le_refl _⟩
theorem Kpt.then_ {base : Nat} {wb W W' : World} (h : Kpt base wb W) (hb : Below W.heap.size W W') : Kpt base wb W' := ⟨fun _ _ ho => (h.own _ _ ho).below hb, Nat.le_trans h.size hb.size⟩
theorem Kpt.setIn {base g : Nat} {t : TypeId} {wb W : World} {cs : Array Value} (h : Kpt base wb W) (hB : Blk W g t cs) (ht : t ≠ 107) (i : Nat) (u : Value) : Kpt base wb (W.setCell ⟨g, i, none⟩ u) :=
 ⟨fun _ _ ho => (h.own _ _ ho).set (p := ⟨g, i, none⟩) (Ne.symm ((h.own _ _ ho).ne_blk hB ht)) u, by simpa [World.setCell] using h.size⟩
theorem Kpt.then_grown {base : Nat} {wb A B : World} {row : Option Nat} (h : Kpt base wb A) (g : A.grownBy B row) (hr : ∀ k, row = some k → wb.heap.size ≤ k) : Kpt base wb B :=
 ⟨fun v _ ho => (h.own _ _ ho).kept g (by
  cases hv : v.ownBlock with
  | none => exact .inl rfl
  | some k => exact .inr (fun e => by have h1 := (ho.lt k hv).2; have h2 := hr k e.symm; omega)), Nat.le_trans h.size g.size⟩
theorem Kpt.chg {base B : Nat} {wb W W' : World} (h : Kpt base wb W) (hB : B < base) (hc : Chg [B] W W') : Kpt base wb W' :=
 ⟨fun _ _ ho => (h.own _ _ ho).chg hc (by simp; omega), Nat.le_trans h.size hc.size⟩
theorem Kpt.from {base D : Nat} {wb W W' : World} {row : Option Nat} (h : Kpt base wb W) (g : W.grownBy W' row) (hr : ∀ r, row = some r → D ≤ r ∧ ∃ o : Obj, W.heap[r]? = some o ∧ o.isCells = false) : Kpt base wb W' :=
 ⟨fun _ _ ho => (h.own _ _ ho).kept g (nc_own (h.own _ _ ho) hr), Nat.le_trans h.size g.size⟩
structure Wrt (base Br : Nat) (w w' : World) : Prop where
 os : w'.os = w.os
 tape : w'.tape = w.tape
 output : w'.output = w.output
 size : w.heap.size ≤ w'.heap.size
 block : ∀ i, i < base → i ≠ Br → w'.heap[i]? = w.heap[i]?
 same : KeepsFrom 0 w w'
theorem Wrt.refl {base Br : Nat} {w : World} : Wrt base Br w w := ⟨rfl, rfl, rfl, Nat.le_refl _, fun _ _ _ => rfl, KeepsFrom.refl _ _⟩
theorem Wrt.trans {base Br : Nat} {w w' w'' : World} (h : Wrt base Br w w') (k : Wrt base Br w' w'') : Wrt base Br w w'' :=
 ⟨k.os.trans h.os, k.tape.trans h.tape, k.output.trans h.output, Nat.le_trans h.size k.size, fun i h1 h2 => (k.block i h1 h2).trans (h.block i h1 h2), h.same.trans k.same⟩
theorem Wrt.of_below {base Br : Nat} {w w' : World} (h : Below w.heap.size w w') (hb : base ≤ w.heap.size) : Wrt base Br w w' := ⟨h.os, h.tape, h.output, h.size, fun i h1 _ => h.block i (by omega), keeps_of_below h⟩
theorem Wrt.then_ {base Br : Nat} {w w' w'' : World} (h : Wrt base Br w w') (k : Below w'.heap.size w' w'') (hb : base ≤ w'.heap.size) : Wrt base Br w w'' := h.trans (.of_below k hb)
theorem Wrt.set {base Br : Nat} {w w' : World} {t : TypeId} {cs : Array Value} (h : Wrt base Br w w') (hB : Blk w' Br t cs) (i : Nat) (u : Value) : Wrt base Br w (w'.setCell ⟨Br, i, none⟩ u) :=
 h.trans ⟨rfl, rfl, rfl, by simp [World.setCell], fun k _ hk => Below.heap_setCell w' ⟨Br, i, none⟩ u k hk, keeps_set hB i u⟩
theorem Wrt.of_chg {base Br : Nat} {w w' : World} {t : TypeId} {cs : Array Value} (hB : Blk w Br t cs) (h : Chg [Br] w w') (hb : base ≤ w.heap.size) : Wrt base Br w w' :=
 ⟨h.os, h.tape, h.output, h.size, fun i h1 h2 => h.block i (by omega) (by simpa using h2), ⟨h.size, fun k o _ hk ho => (h.block k (Array.getElem?_eq_some_iff.1 hk).1 (by
  simp only [List.mem_singleton]
  rintro rfl
  unfold Blk at hB
  rw [hB] at hk
  cases hk
  cases ho)).trans hk⟩⟩
theorem Wrt.grown {α : Type} {enc : α → List Value} {sz : Nat} {e : TypeId} {base Br bs : Nat} {w w' w'' : World} {v : Value} {l : List α} (h : Wrt base Br w w') (ho : Own enc sz bs e w' v l) (hg : w'.grownBy w'' v.ownBlock) (hb : base ≤ bs) (hz : base ≤ w'.heap.size) : Wrt base Br w w'' :=
 h.trans ⟨hg.os, hg.tape, hg.output, hg.size, fun i h1 _ => hg.block i (by omega) (fun e => by have := (ho.lt i e.symm).1; omega), keeps_grown ho hg⟩
theorem Wrt.below {base Br b0 : Nat} {w w' : World} (h : Wrt base Br w w') (h1 : b0 ≤ base) (h2 : b0 ≤ Br) : Below b0 w w' := ⟨h.os, h.tape, h.output, h.size, fun i hi => h.block i (by omega) (by omega)⟩
theorem Wrt.blk {base Br g : Nat} {w w' : World} {t : TypeId} {cs : Array Value} (h : Wrt base Br w w') (hB : Blk w g t cs) (h1 : g < base) (h2 : g ≠ Br) : Blk w' g t cs := (h.block g h1 h2).trans hB
def RdrAt (base Br n : Nat) (W : World) (l : List Pan) (o : Option Pan) (st : Str) : Prop :=
 ∃ (xs : List PnV) (vP : Value) (x : PnV) (wb : World),
  Blk W Br 172 #[vP, sV x.1, .int .i64 x.2.1, slV x.2.2.1, slV x.2.2.2, sV st] ∧
  Own pnc 4 base 30 W vP xs ∧ PnsOwn base wb xs l ∧ Kpt base wb W ∧ base ≤ wb.heap.size ∧ OpnAt wb.heap.size W x o ∧
  l.length ≤ n ∧ n ≤ 20000 ∧ (∀ p, o = some p → p.1.length ≤ 100000 ∧ p.2.2.1.length ≤ n ∧ p.2.2.2.length ≤ n ∧ (st = wPan ∨ st = wLeft → p.2.2.2 = [])) ∧ st.length ≤ 100000
theorem Rd.str {w : World} {A : Option Addr} {l : List Str} (h : Rd strc 1 w A l) {k : Nat} {s : Str} (hk : l[k]? = some s) : ∃ b off, A = some ⟨b, off, none⟩ ∧ b < w.heap.size ∧ w.cell? ⟨b, off + k, none⟩ = some (sV s) := by
 obtain ⟨b, off, e, hlt, hc⟩ := h k s hk
 exact ⟨b, off, e, hlt, by simpa using hc 0 _ rfl⟩
def begP (W : List Str) : Pan := (W.getD 1 [], (decR (W.getD 2 [])).1, [], [])
def begE (W : List Str) (l : List Pan) : Int := if W.length ≠ 3 ∨ W.getD 1 [] = [] then 25 else firstI [whenI (!(decR (W.getD 2 [])).2) 25, whenI (decide (l.length = 16)) 5]
theorem begin_any (base Br n : Nat) (W : List Str) (A : Option Addr) (c : Nat) (l : List Pan) (o : Option Pan) (st : Str) (w : World) (hL : Lay w) (hr : RdrAt base Br n w l o st) (hW : Rd strc 1 w A W) (hlen : W.length ≤ 100000) (hs : ∀ s ∈ W, s.length ≤ 100000) (hn : n + 1 ≤ 20000) :
    Calls Tryz.prog 159 #[.pointer (some ⟨Br, 0, none⟩), .slice A W.length c] w (fun e w' => e = .returned (.int .i64 (begE W l)) ∧ Wrt base Br w w' ∧ (begE W l = 0 → RdrAt base Br (n + 1) w' l (some (begP W)) st)) := by
  by_cases h3 : W.length = 3
  · obtain ⟨w0, w1, w2, rfl⟩ : ∃ a b c, W = [a, b, c] := by
      match W, h3 with
      | [a, b, c], _ => exact ⟨a, b, c, rfl⟩
    obtain ⟨b, off, rfl, hb, e1⟩ := hW.str (k := 1) (s := w1) rfl
    obtain ⟨b2, off2, hE, _, e2⟩ := hW.str (k := 2) (s := w2) rfl
    have hE2 : b2 = b ∧ off2 = off := by simpa using hE.symm
    rw [hE2.1, hE2.2] at e2
    clear hE2 hE
    by_cases h1 : w1 = []
    · subst h1
      have HE : Hid (begE [w0, [], w2] l = 25) := by unfold Hid begE; rw [if_pos (.inr rfl)]
      unfold sV at e1
      go_enter Tryz.func159, Tryz.ntmps159
      go_wp2
      go_ret
      exact ⟨by rw [HE.out]; rfl, Wrt.refl, fun h => by rw [HE.out] at h; exact absurd h (by decide)⟩
    · obtain ⟨xs, vP, ⟨nm, wd, ⟨La, Ln, Lc⟩, ⟨Ra, Rn, Rc⟩⟩, wb, hBr, hP, hxs, hC, hbz, hop, h5, h6, h7, h8⟩ := hr
      simp only [slV] at hBr
      obtain ⟨PA, Pc, rfl⟩ := hP.shape
      have hxl := hxs.len
      have hd := dec_any w2 (by have := hs w2 (by simp); omega) w hL
      have hw1l := hs w1 (by simp)
      have HP : Hid (begP [w0, w1, w2] = (w1, (decR w2).1, [], [])) := rfl
      have HE : Hid (begE [w0, w1, w2] l = firstI [whenI (!(decR w2).2) 25, whenI ((xs.length : Int) == 16) 5]) := by
        unfold Hid begE
        rw [if_neg (by simp [h1]), show decide (l.length = 16) = ((xs.length : Int) == 16) by rw [hxl, Bool.eq_iff_iff]; simp; omega]
        rfl
      obtain ⟨⟨D, k⟩, hD⟩ : ∃ z, decR w2 = z := ⟨_, rfl⟩
      rw [hD] at hd HE HP
      simp only at hd HE HP
      obtain ⟨E, hEE⟩ : ∃ E, begE [w0, w1, w2] l = E := ⟨_, rfl⟩
      obtain ⟨PP, hPP⟩ : ∃ E, begP [w0, w1, w2] = E := ⟨_, rfl⟩
      rw [hEE] at HE ⊢
      rw [hPP] at HP ⊢
      have hf2 : ∀ A c' W, Rd ic 1 W A [whenI (!k) 25, whenI ((xs.length : Int) == 16) 5] → Calls Tryz.prog 72 #[.slice A 2 c'] W (RV W (.int .i64 E)) := fun A c' W hr => by
        rw [HE.out]
        exact pfirst_any [whenI (!k) 25, whenI ((xs.length : Int) == 16) 5] A c' W (by simp [maxLen]) hr
      have HXL := Lib.hid hxl
      unfold sV at e1 e2 hBr hd
      obtain ⟨B1, hB1⟩ : ∃ B : ByteArray, ({ data := w1.toArray } : ByteArray) = B := ⟨_, rfl⟩
      have hBl : B1.toList = w1 := by rw [← hB1]; simp [ByteArray.toList_eq]
      have g1 : (B1.toList == []) = false := by rw [hBl]; cases w1 <;> simp_all
      have g2 : B1.toList.isEmpty = false := by rw [hBl]; cases w1 <;> simp_all
      have g3 : (B1.toList = []) = False := by rw [hBl]; simpa using h1
      have HB1 := Lib.hid hB1
      rw [hB1] at e1
      have fB := hBr.facts
      clear hD hEE hPP hB1 hBl h1 hxl h3 hs hlen hL HE
      go_enter Tryz.func159, Tryz.ntmps159
      go_wp2_with fail
      refine hd.mono ?_
      rintro e w3 ⟨rfl, hb3⟩
      have hB3 := hBr.below hb3
      have e13 : w3.cell? ⟨b, off + 1, none⟩ = some (.string B1) := (hb3.cell (p := ⟨b, off + 1, none⟩) hb).trans e1
      go_upto_region 5 with (refine wpList_store_mid hB3 rfl _ _ _ rfl rfl rfl (by simp) (by kernel_rfl) (by kernel_rfl) ?_)
      have hB4 : Blk (w3.setCells Br 1 [.string B1, .int .i64 D, .slice none 0 0, .slice none 0 0]) Br 172 #[.slice PA xs.length Pc, .string B1, .int .i64 D, .slice none 0 0, .slice none 0 0, .string ⟨st.toArray⟩] := by
        have := (((hB3.set_ 1 (.string B1)).set_ 2 (.int .i64 D)).set_ 3 (.slice none 0 0)).set_ 4 (.slice none 0 0)
        simpa [World.setCells] using this
      have hC4 : Chg [Br] w3 (w3.setCells Br 1 [.string B1, .int .i64 D, .slice none 0 0, .slice none 0 0]) := by
        simp only [World.setCells]
        exact (((Chg.refl.setIn (p := ⟨Br, _, none⟩) (by simp) _).setIn (p := ⟨Br, _, none⟩) (by simp) _).setIn (p := ⟨Br, _, none⟩) (by simp) _).setIn (p := ⟨Br, _, none⟩) (by simp) _
      obtain ⟨w4, hw4⟩ : ∃ X, w3.setCells Br 1 [.string B1, .int .i64 D, .slice none 0 0, .slice none 0 0] = X := ⟨_, rfl⟩
      rw [hw4] at hB4 hC4
      simp only [Act.put]
      rw [hw4]
      have hC34 : Chg [Br] w w4 := (Chg.of_below (S := [Br]) hb3).trans hC4
      have hP4 := hP.past hBr (by decide) hC34
      have hxs4 := (hxs.to hC.own).past hBr hC34
      have hB4s := hC34.size
      have hbw4 : Wrt base Br w w4 := Wrt.of_chg hBr hC34 (Nat.le_trans hbz hC.size)
      have fB4 := hB4.facts
      clear hw4 fB hB3 hBr e1 e2 e13 hC4 hC34 hb3 hd hP hxs
      refine wp_region_ords [0, 1, 3, 4, 5, 6, 7, 8] [(2, false)] [9, 10, 11, 12] (by kernel_rfl) (by kernel_rfl) (fun d _ _ _ _ h => by cases d <;> exact h) ?_
      simp only [List.map_cons, List.map_nil, List.getD_cons_zero, List.getD_cons_succ]
      repeat (go_big_quiet_step (fail))
      refine wpQuiet_nil ?_
      refine wpMid_run rfl (fun K hK => ?_)
      go_simp
      refine (pwhen_any _ 25 _).mono ?_
      rintro e w5 ⟨rfl, hb5⟩
      refine hK _ _ (by (repeat first|exact J0|assumption|(apply J1;assumption)|apply J2|apply J3|apply J4)) ?_
      clear hK K
      have hB4_w5 := hB4.below (show Below _ _ w5 by (repeat first|exact J0|assumption|(apply J1;assumption)|apply J2|apply J3|apply J4))
      have fhB4_w5 := hB4_w5.facts
      refine wpMid_nil ?_
      go_wp2_with (go_at_call 117; refine (pwhen_any _ _ _).mono ?_; rintro e w6 ⟨rfl, hb6⟩)
      go_must (refine (hf2 _ _ _ (Rd.ints2 (by simp) (by go_simp) (by go_simp))).mono ?_)
      rintro e w7 ⟨rfl, hb7⟩
      have hb47 : Below w4.heap.size w4 w7 := by (repeat first|exact J0|assumption|(apply J1;assumption)|apply J2|apply J3|apply J4)
      go_wp2
      go_ret
      have hz7 := hb47.size
      have hc7 := hC.size
      refine ⟨rfl, hbw4.then_ hb47 (by omega), fun _ => ⟨xs, .slice PA xs.length Pc, (w1, D, (none, 0, 0), (none, 0, 0)), w7, ?_, hP4.below hb47, hxs4.below hb47, Kpt.refl, by omega, ?_, by omega, hn, ?_, h8⟩⟩
      · have := hB4.below hb47
        rw [← HB1.out] at this
        exact this
      · rw [HP.out]
        exact ⟨w7.heap.size, Nat.le_refl _, Nat.le_refl _, rfl, rfl, Own.nil_, (fun k e => by cases e), Own.nil_, fun _ => rfl⟩
      · rintro p hp
        cases hp
        rw [HP.out]
        exact ⟨hw1l, by simp, by simp, fun _ => rfl⟩
  · have HE : Hid (begE W l = 25) := by unfold Hid begE; rw [if_pos (.inl h3)]
    have t3 : ((W.length : Int) != 3) = true := by simp; omega
    have t4 : ((W.length : Int) == 3) = false := by simp; omega
    clear h3
    go_enter Tryz.func159, Tryz.ntmps159
    go_wp2
    go_ret
    exact ⟨by rw [HE.out]; rfl, Wrt.refl, fun h => by rw [HE.out] at h; exact absurd h (by decide)⟩
end Go.Proofs.YtkkefahobjlagaaGreatDoor
namespace Go.Proofs.YtkkefahobjlagaaGreatDoor
open Go.RowKit Go.ChangeMaps
set_option maxHeartbeats 4000000
set_option maxRecDepth 100000
def bV (b : Bool) : Value := .bool b
theorem Own.ne_own {α β : Type} {enc : α → List Value} {enc' : β → List Value} {sz sz' base base' : Nat} {e e' : TypeId} {w : World} {v u : Value} {l : List α} {r : List β} (h : Own enc sz base e w v l) (h' : Own enc' sz' base' e' w u r) (hne : e ≠ e') : v.ownBlock = none ∨ v.ownBlock ≠ u.ownBlock := by
 rcases h.2 with ⟨rfl, _⟩ | ⟨g, cap, cur, rfl, _, hh, _⟩
 ·exact .inl rfl
 ·refine .inr fun e1 => ?_
  rcases h'.2 with ⟨rfl, _⟩ | ⟨g', cap', cur', rfl, _, hh', _⟩
  ·cases e1
  ·have : g = g' := by simpa [Value.ownBlock] using e1
   subst this
   rw [hh] at hh'
   cases hh'
   exact hne rfl
def PrS (l S : List Bar) (r : Nat) (W2 wr : World) (p : Value) (P : List Bar) : Prop :=
 OwB W2.heap.size wr p P ∧ (∃ m c, MapAt bk bV wr r m c ∧ MOk m c ∧ ∀ q, mget q m = seenO (S ++ P) q) ∧ PartOk l S P ∧ Chg [r] W2 wr
theorem PrS.same {l S : List Bar} {r : Nat} {W2 wr : World} {p : Value} {P P' : List Bar} (h : PrS l S r W2 wr p P) (e : P' = P) : PrS l S r W2 wr p P' := by rw [e]; exact h
end Go.Proofs.YtkkefahobjlagaaGreatDoor

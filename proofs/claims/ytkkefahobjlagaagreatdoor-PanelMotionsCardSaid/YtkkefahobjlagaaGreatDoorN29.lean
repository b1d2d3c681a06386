/- Numbers of panels, walked. Conditions: the variables are laid. -/
import Derived.Test.YtkkefahobjlagaaGreatDoorN28
import Derived.Test.YtkkefahobjlagaaGreatDoorN15
import Derived.Test.YtkkefahobjlagaaGreatDoorN27
import Derived.Deep.CutRange
namespace Go.Proofs.YtkkefahobjlagaaGreatDoor
open Go.RowKit Go.ChangeMaps
set_option maxHeartbeats 4000000
set_option maxRecDepth 100000
attribute [local go_sem] Oper.semAt_some
def decR (s : Str) : Int × Bool := match Lib.atoiAll s with
 | .ok n => (n, decide (s.length ≤ 9) && decide (0 ≤ n) && decide (Lib.itoa n = s))
 | .range => (Lib.atoiSat s, false)
 | _ => (0, false)
theorem dec_any (s : Str) (hs : s.length ≤ 1000000) (w : World) (hL : Lay w) : Calls Tryz.prog 189 #[sV s] w (RV w (.tuple #[.int .i64 (decR s).1, .bool (decR s).2])) := by
 have hsz : (({ data := s.toArray } : ByteArray)).size = s.length := by simp [ByteArray.size]
 cases ha : Lib.atoiAll s
 ·rename_i v
  have hb := Lib.atoiAll_bounds ha
  have HR : Hid (decR s = (v, decide (s.length ≤ 9) && decide (0 ≤ v) && decide (Lib.itoa v = s))) := by unfold Hid decR; rw [ha]
  have hc : Calls Tryz.prog 222 #[sV s] w (RV w (.tuple #[.int .i64 v, .nilIface])) := by
   refine (str_strconv_Atoi_ok ⟨s.toArray⟩ (by rw [hsz]; omega) v ha w).mono ?_
   rintro e w' ⟨rfl, rfl | ⟨t, rfl⟩⟩
   ·exact ⟨rfl, bl_refl⟩
   ·exact ⟨rfl, rfl, rfl, rfl, by rw [Lib.bytesWorld_size]; omega, fun j hj => Lib.bytesWorld_at_old w _ t j hj⟩
  clear ha
  unfold sV at hc ⊢
  by_cases h1 : s.length ≤ 9
  ·by_cases h2 : 0 ≤ v
   ·have t1 : ((s.length : Int) ≤ 9) = True := eq_true (by omega)
    have t2 : (0 ≤ v) = True := eq_true h2
    have HR2 : Hid (decR s = (v, Lib.itoa v == s)) := by
     unfold Hid
     rw [HR.out, decide_eq_true h1, decide_eq_true h2]
     by_cases hq : Lib.itoa v = s <;> simp [hq]
    clear h1 h2 HR
    go_enter Tryz.func189, Tryz.ntmps189
    go_wp2_with fail
    refine hc.mono ?_
    rintro e w1 ⟨rfl, hb1⟩
    have hi := itoa_any' v hb w1 (hL.below hb1)
    go_wp2_with (go_at_call 98; refine hi.mono ?_; rintro e w2 ⟨rfl, hb2⟩)
    go_ret2
    exact ⟨by rw [HR2.out]; rfl, bl_then hb2 hb1⟩
   ·have t1 : ((s.length : Int) ≤ 9) = True := eq_true (by omega)
    have t2 : (0 ≤ v) = False := eq_false h2
    have HR2 : Hid (decR s = (v, false)) := by unfold Hid; rw [HR.out, decide_eq_false h2]; simp
    clear h1 h2 HR
    go_enter Tryz.func189, Tryz.ntmps189
    go_wp2_with fail
    refine hc.mono ?_
    rintro e w1 ⟨rfl, hb1⟩
    go_wp2
    go_ret2
    exact ⟨by rw [HR2.out]; rfl, hb1⟩
  ·have t1 : ((s.length : Int) ≤ 9) = False := eq_false (by omega)
   have HR2 : Hid (decR s = (v, false)) := by unfold Hid; rw [HR.out, decide_eq_false h1]; simp
   clear h1 HR
   go_enter Tryz.func189, Tryz.ntmps189
   go_wp2_with fail
   refine hc.mono ?_
   rintro e w1 ⟨rfl, hb1⟩
   go_wp2
   go_ret2
   exact ⟨by rw [HR2.out]; rfl, hb1⟩
 ·have HR : Hid (decR s = (0, false)) := by unfold Hid decR; rw [ha]
  obtain ⟨ev, hev, hev2⟩ := hL.es
  have hc : Calls Tryz.prog 222 #[sV s] w (fun e w' => ∃ N, e = .returned (.tuple #[.int .i64 (0), .iface 311 (.pointer (some ⟨N, 0, none⟩))]) ∧ w.heap.size ≤ N ∧ w'.heap[N]? = some (.cells #[.string ⟨#[65, 116, 111, 105]⟩, .string ⟨s.toArray⟩, ev] 325 (0, 0)) ∧ Below w.heap.size w w') :=
   Any.strconv_Atoi_syntax str_laysC172 ⟨s.toArray⟩ (by rw [hsz]; omega) ha ev w hev hev2
  clear ha
  unfold sV at hc ⊢
  go_enter Tryz.func189, Tryz.ntmps189
  go_wp2_with fail
  refine hc.mono ?_
  rintro e w1 ⟨N, rfl, hN, hNB, hb1⟩
  go_wp2
  go_ret2
  exact ⟨by rw [HR.out]; rfl, hb1⟩
 ·have HR : Hid (decR s = (Lib.atoiSat s, false)) := by unfold Hid decR; rw [ha]
  obtain ⟨ev, hev, hev2⟩ := hL.er
  have hc : Calls Tryz.prog 222 #[sV s] w (fun e w' => ∃ N, e = .returned (.tuple #[.int .i64 (Lib.atoiSat s), .iface 311 (.pointer (some ⟨N, 0, none⟩))]) ∧ w.heap.size ≤ N ∧ w'.heap[N]? = some (.cells #[.string ⟨#[65, 116, 111, 105]⟩, .string ⟨s.toArray⟩, ev] 325 (0, 0)) ∧ Below w.heap.size w w') :=
   Any.strconv_Atoi_range str_laysC172 ⟨s.toArray⟩ (by rw [hsz]; omega) ha ev w hev hev2
  clear ha
  unfold sV at hc ⊢
  go_enter Tryz.func189, Tryz.ntmps189
  go_wp2_with fail
  refine hc.mono ?_
  rintro e w1 ⟨N, rfl, hN, hNB, hb1⟩
  go_wp2
  go_ret2
  exact ⟨by rw [HR.out]; rfl, hb1⟩
structure PnOwn (base : Nat) (w : World) (x : PnV) (p : Pan) : Prop where
 nm : x.1 = p.1
 wd : x.2.1 = p.2.1
 left : Own ec 3 base 107 w (slV x.2.2.1) p.2.2.1
 right : Own ec 3 base 107 w (slV x.2.2.2) p.2.2.2
def PnsOwn (base : Nat) (w : World) : List PnV → List Pan → Prop
 | [], [] => True
 | x :: xs, p :: ps => PnOwn base w x p ∧ PnsOwn base w xs ps
 | _, _ => False
theorem PnOwn.to {base : Nat} {w w' : World} {x : PnV} {p : Pan} (f : ∀ v l, Own ec 3 base 107 w v l → Own ec 3 base 107 w' v l) (h : PnOwn base w x p) : PnOwn base w' x p := ⟨h.nm, h.wd, f _ _ h.left, f _ _ h.right⟩
theorem PnsOwn.to {base : Nat} {w w' : World} (f : ∀ v l, Own ec 3 base 107 w v l → Own ec 3 base 107 w' v l) : ∀ {xs : List PnV} {l : List Pan}, PnsOwn base w xs l → PnsOwn base w' xs l
 | [], [], _ => trivial
 | _ :: _, _ :: _, h => ⟨h.1.to f, h.2.to f⟩
 | [], _ :: _, h => h.elim
 | _ :: _, [], h => h.elim
theorem PnsOwn.snoc {base : Nat} {w : World} {x : PnV} {p : Pan} (hx : PnOwn base w x p) : ∀ {xs : List PnV} {l : List Pan}, PnsOwn base w xs l → PnsOwn base w (xs ++ [x]) (l ++ [p])
 | [], [], _ => ⟨hx, trivial⟩
 | _ :: _, _ :: _, h => ⟨h.1, PnsOwn.snoc hx h.2⟩
 | [], _ :: _, h => h.elim
 | _ :: _, [], h => h.elim
theorem PnsOwn.at_ {base : Nat} {w : World} : ∀ {xs : List PnV} {l : List Pan}, PnsOwn base w xs l → PnsAt w xs l
 | [], [], _ => trivial
 | _ :: _, _ :: _, h => ⟨⟨h.1.nm, h.1.wd, h.1.left.rd ec_len, h.1.right.rd ec_len⟩, h.2.at_⟩
 | [], _ :: _, h => h.elim
 | _ :: _, [], h => h.elim
theorem PnsOwn.len {base : Nat} {w : World} {xs : List PnV} {l : List Pan} (h : PnsOwn base w xs l) : xs.length = l.length := h.at_.len
def OpnAt (nb : Nat) (W : World) (x : PnV) : Option Pan → Prop
 | none => True
 | some p => ∃ nr : Nat, nb ≤ nr ∧ nr ≤ W.heap.size ∧ x.1 = p.1 ∧ x.2.1 = p.2.1 ∧ Own ec 3 nb 107 W (slV x.2.2.1) p.2.2.1 ∧ (∀ k, (slV x.2.2.1).ownBlock = some k → k < nr) ∧ Own ec 3 nr 107 W (slV x.2.2.2) p.2.2.2 ∧ (p.2.2.2 = [] → x.2.2.2 = (none, 0, 0))
def wPan : Str := [112, 97, 110, 101, 108]
def wLeft : Str := [108, 101, 102, 116]
def wRight : Str := [114, 105, 103, 104, 116]
def wEnd : Str := [101, 110, 100]
theorem Own.past {α : Type} {enc : α → List Value} {sz base g : Nat} {e t : TypeId} {w w' : World} {v : Value} {l : List α} {cs : Array Value} (ho : Own enc sz base e w v l) (hB : Blk w g t cs) (ht : t ≠ e) (hc : Chg [g] w w') : Own enc sz base e w' v l := ho.chg1 hc (Ne.symm (ho.ne_blk hB ht))
theorem PnsOwn.past {base g : Nat} {w w' : World} {cs : Array Value} {xs : List PnV} {l : List Pan} (h : PnsOwn base w xs l) (hB : Blk w g 172 cs) (hc : Chg [g] w w') : PnsOwn base w' xs l := h.to fun _ _ ho => ho.past hB (by decide) hc
theorem PnsOwn.below {base : Nat} {w w' : World} {xs : List PnV} {l : List Pan} (h : PnsOwn base w xs l) (hb : Below w.heap.size w w') : PnsOwn base w' xs l := h.to fun _ _ ho => ho.below hb
structure Kpt (base : Nat) (wb W : World) : Prop where
 own : ∀ v l, Own ec 3 base 107 wb v l → Own ec 3 base 107 W v l
 size : wb.heap.size ≤ W.heap.size
theorem Kpt.refl {base : Nat} {W : World} : Kpt base W W := ⟨fun _ _ h => h, Nat.le_refl _⟩
theorem Kpt.then_ {base : Nat} {wb W W' : World} (h : Kpt base wb W) (hb : Below W.heap.size W W') : Kpt base wb W' := ⟨fun _ _ ho => (h.own _ _ ho).below hb, Nat.le_trans h.size hb.size⟩
theorem Kpt.setIn {base g : Nat} {t : TypeId} {wb W : World} {cs : Array Value} (h : Kpt base wb W) (hB : Blk W g t cs) (ht : t ≠ 107) (i : Nat) (u : Value) : Kpt base wb (W.setCell ⟨g, i, none⟩ u) :=
 ⟨fun _ _ ho => (h.own _ _ ho).set (p := ⟨g, i, none⟩) (Ne.symm ((h.own _ _ ho).ne_blk hB ht)) u, by simpa [World.setCell] using h.size⟩
theorem Kpt.then_grown {base : Nat} {wb A B : World} {row : Option Nat} (h : Kpt base wb A) (g : A.grownBy B row) (hr : ∀ k, row = some k → wb.heap.size ≤ k) : Kpt base wb B :=
 ⟨fun v _ ho => (h.own _ _ ho).kept g (by
  cases hv : v.ownBlock with
  | none => exact .inl rfl
  | some k => exact .inr (fun e => by have h1 := (ho.lt k hv).2; have h2 := hr k e.symm; omega)), Nat.le_trans h.size g.size⟩
theorem Kpt.chg {base B : Nat} {wb W W' : World} (h : Kpt base wb W) (hB : B < base) (hc : Chg [B] W W') : Kpt base wb W' :=
 ⟨fun _ _ ho => (h.own _ _ ho).chg hc (by simp; omega), Nat.le_trans h.size hc.size⟩
theorem Kpt.from {base D : Nat} {wb W W' : World} {row : Option Nat} (h : Kpt base wb W) (g : W.grownBy W' row) (hr : ∀ r, row = some r → D ≤ r ∧ ∃ o : Obj, W.heap[r]? = some o ∧ o.isCells = false) : Kpt base wb W' :=
 ⟨fun _ _ ho => (h.own _ _ ho).kept g (nc_own (h.own _ _ ho) hr), Nat.le_trans h.size g.size⟩
structure Wrt (base Br : Nat) (w w' : World) : Prop where
 os : w'.os = w.os
 tape : w'.tape = w.tape
 output : w'.output = w.output
 size : w.heap.size ≤ w'.heap.size
 block : ∀ i, i < base → i ≠ Br → w'.heap[i]? = w.heap[i]?
 same : KeepsFrom 0 w w'
theorem Wrt.refl {base Br : Nat} {w : World} : Wrt base Br w w := ⟨rfl, rfl, rfl, Nat.le_refl _, fun _ _ _ => rfl, KeepsFrom.refl _ _⟩
theorem Wrt.trans {base Br : Nat} {w w' w'' : World} (h : Wrt base Br w w') (k : Wrt base Br w' w'') : Wrt base Br w w'' :=
 ⟨k.os.trans h.os, k.tape.trans h.tape, k.output.trans h.output, Nat.le_trans h.size k.size, fun i h1 h2 => (k.block i h1 h2).trans (h.block i h1 h2), h.same.trans k.same⟩
theorem Wrt.of_below {base Br : Nat} {w w' : World} (h : Below w.heap.size w w') (hb : base ≤ w.heap.size) : Wrt base Br w w' := ⟨h.os, h.tape, h.output, h.size, fun i h1 _ => h.block i (by omega), keeps_of_below h⟩
theorem Wrt.then_ {base Br : Nat} {w w' w'' : World} (h : Wrt base Br w w') (k : Below w'.heap.size w' w'') (hb : base ≤ w'.heap.size) : Wrt base Br w w'' := h.trans (.of_below k hb)
theorem Wrt.set {base Br : Nat} {w w' : World} {t : TypeId} {cs : Array Value} (h : Wrt base Br w w') (hB : Blk w' Br t cs) (i : Nat) (u : Value) : Wrt base Br w (w'.setCell ⟨Br, i, none⟩ u) :=
 h.trans ⟨rfl, rfl, rfl, by simp [World.setCell], fun k _ hk => Below.heap_setCell w' ⟨Br, i, none⟩ u k hk, keeps_set hB i u⟩
theorem Wrt.of_chg {base Br : Nat} {w w' : World} {t : TypeId} {cs : Array Value} (hB : Blk w Br t cs) (h : Chg [Br] w w') (hb : base ≤ w.heap.size) : Wrt base Br w w' :=
 ⟨h.os, h.tape, h.output, h.size, fun i h1 h2 => h.block i (by omega) (by simpa using h2), ⟨h.size, fun k o _ hk ho => (h.block k (Array.getElem?_eq_some_iff.1 hk).1 (by
  simp only [List.mem_singleton]
  rintro rfl
  unfold Blk at hB
  rw [hB] at hk
  cases hk
  cases ho)).trans hk⟩⟩
theorem Wrt.grown {α : Type} {enc : α → List Value} {sz : Nat} {e : TypeId} {base Br bs : Nat} {w w' w'' : World} {v : Value} {l : List α} (h : Wrt base Br w w') (ho : Own enc sz bs e w' v l) (hg : w'.grownBy w'' v.ownBlock) (hb : base ≤ bs) (hz : base ≤ w'.heap.size) : Wrt base Br w w'' :=
 h.trans ⟨hg.os, hg.tape, hg.output, hg.size, fun i h1 _ => hg.block i (by omega) (fun e => by have := (ho.lt i e.symm).1; omega), keeps_grown ho hg⟩
theorem Wrt.below {base Br b0 : Nat} {w w' : World} (h : Wrt base Br w w') (h1 : b0 ≤ base) (h2 : b0 ≤ Br) : Below b0 w w' := ⟨h.os, h.tape, h.output, h.size, fun i hi => h.block i (by omega) (by omega)⟩
theorem Wrt.blk {base Br g : Nat} {w w' : World} {t : TypeId} {cs : Array Value} (h : Wrt base Br w w') (hB : Blk w g t cs) (h1 : g < base) (h2 : g ≠ Br) : Blk w' g t cs := (h.block g h1 h2).trans hB
def RdrAt (base Br n : Nat) (W : World) (l : List Pan) (o : Option Pan) (st : Str) : Prop :=
 ∃ (xs : List PnV) (vP : Value) (x : PnV) (wb : World),
  Blk W Br 172 #[vP, sV x.1, .int .i64 x.2.1, slV x.2.2.1, slV x.2.2.2, sV st] ∧
  Own pnc 4 base 30 W vP xs ∧ PnsOwn base wb xs l ∧ Kpt base wb W ∧ base ≤ wb.heap.size ∧ OpnAt wb.heap.size W x o ∧
  l.length ≤ n ∧ n ≤ 20000 ∧ (∀ p, o = some p → p.1.length ≤ 100000 ∧ p.2.2.1.length ≤ n ∧ p.2.2.2.length ≤ n ∧ (st = wPan ∨ st = wLeft → p.2.2.2 = [])) ∧ st.length ≤ 100000
theorem Rd.str {w : World} {A : Option Addr} {l : List Str} (h : Rd strc 1 w A l) {k : Nat} {s : Str} (hk : l[k]? = some s) : ∃ b off, A = some ⟨b, off, none⟩ ∧ b < w.heap.size ∧ w.cell? ⟨b, off + k, none⟩ = some (sV s) := by
 obtain ⟨b, off, e, hlt, hc⟩ := h k s hk
 exact ⟨b, off, e, hlt, by simpa using hc 0 _ rfl⟩
def begP (W : List Str) : Pan := (W.getD 1 [], (decR (W.getD 2 [])).1, [], [])
def begE (W : List Str) (l : List Pan) : Int := if W.length ≠ 3 ∨ W.getD 1 [] = [] then 25 else firstI [whenI (!(decR (W.getD 2 [])).2) 25, whenI (decide (l.length = 16)) 5]
theorem begin_any (base Br n : Nat) (W : List Str) (A : Option Addr) (c : Nat) (l : List Pan) (o : Option Pan) (st : Str) (w : World) (hL : Lay w) (hr : RdrAt base Br n w l o st) (hW : Rd strc 1 w A W) (hlen : W.length ≤ 100000) (hs : ∀ s ∈ W, s.length ≤ 100000) (hn : n + 1 ≤ 20000) :
    Calls Tryz.prog 159 #[.pointer (some ⟨Br, 0, none⟩), .slice A W.length c] w (fun e w' => e = .returned (.int .i64 (begE W l)) ∧ Wrt base Br w w' ∧ (begE W l = 0 → RdrAt base Br (n + 1) w' l (some (begP W)) st)) := by
  by_cases h3 : W.length = 3
  · obtain ⟨w0, w1, w2, rfl⟩ : ∃ a b c, W = [a, b, c] := by
      match W, h3 with
      | [a, b, c], _ => exact ⟨a, b, c, rfl⟩
    obtain ⟨b, off, rfl, hb, e1⟩ := hW.str (k := 1) (s := w1) rfl
    obtain ⟨b2, off2, hE, _, e2⟩ := hW.str (k := 2) (s := w2) rfl
    have hE2 : b2 = b ∧ off2 = off := by simpa using hE.symm
    rw [hE2.1, hE2.2] at e2
    clear hE2 hE
    by_cases h1 : w1 = []
    · subst h1
      have HE : Hid (begE [w0, [], w2] l = 25) := by unfold Hid begE; rw [if_pos (.inr rfl)]
      unfold sV at e1
      go_enter Tryz.func159, Tryz.ntmps159
      go_wp2
      go_ret
      exact ⟨by rw [HE.out]; rfl, Wrt.refl, fun h => by rw [HE.out] at h; exact absurd h (by decide)⟩
    · obtain ⟨xs, vP, ⟨nm, wd, ⟨La, Ln, Lc⟩, ⟨Ra, Rn, Rc⟩⟩, wb, hBr, hP, hxs, hC, hbz, hop, h5, h6, h7, h8⟩ := hr
      simp only [slV] at hBr
      obtain ⟨PA, Pc, rfl⟩ := hP.shape
      have hxl := hxs.len
      have hd := dec_any w2 (by have := hs w2 (by simp); omega) w hL
      have hw1l := hs w1 (by simp)
      have HP : Hid (begP [w0, w1, w2] = (w1, (decR w2).1, [], [])) := rfl
      have HE : Hid (begE [w0, w1, w2] l = firstI [whenI (!(decR w2).2) 25, whenI ((xs.length : Int) == 16) 5]) := by
        unfold Hid begE
        rw [if_neg (by simp [h1]), show decide (l.length = 16) = ((xs.length : Int) == 16) by rw [hxl, Bool.eq_iff_iff]; simp; omega]
        rfl
      obtain ⟨⟨D, k⟩, hD⟩ : ∃ z, decR w2 = z := ⟨_, rfl⟩
      rw [hD] at hd HE HP
      simp only at hd HE HP
      obtain ⟨E, hEE⟩ : ∃ E, begE [w0, w1, w2] l = E := ⟨_, rfl⟩
      obtain ⟨PP, hPP⟩ : ∃ E, begP [w0, w1, w2] = E := ⟨_, rfl⟩
      rw [hEE] at HE ⊢
      rw [hPP] at HP ⊢
      have hf2 : ∀ A c' W, Rd ic 1 W A [whenI (!k) 25, whenI ((xs.length : Int) == 16) 5] → Calls Tryz.prog 72 #[.slice A 2 c'] W (RV W (.int .i64 E)) := fun A c' W hr => by
        rw [HE.out]
        exact pfirst_any [whenI (!k) 25, whenI ((xs.length : Int) == 16) 5] A c' W (by simp [maxLen]) hr
      have HXL := Lib.hid hxl
      unfold sV at e1 e2 hBr hd
      obtain ⟨B1, hB1⟩ : ∃ B : ByteArray, ({ data := w1.toArray } : ByteArray) = B := ⟨_, rfl⟩
      have hBl : B1.toList = w1 := by rw [← hB1]; simp [ByteArray.toList_eq]
      have g1 : (B1.toList == []) = false := by rw [hBl]; cases w1 <;> simp_all
      have g2 : B1.toList.isEmpty = false := by rw [hBl]; cases w1 <;> simp_all
      have g3 : (B1.toList = []) = False := by rw [hBl]; simpa using h1
      have HB1 := Lib.hid hB1
      rw [hB1] at e1
      have fB := hBr.facts
      clear hD hEE hPP hB1 hBl h1 hxl h3 hs hlen hL HE
      go_enter Tryz.func159, Tryz.ntmps159
      go_wp2_with fail
      refine hd.mono ?_
      rintro e w3 ⟨rfl, hb3⟩
      have hB3 := hBr.below hb3
      have e13 : w3.cell? ⟨b, off + 1, none⟩ = some (.string B1) := (hb3.cell (p := ⟨b, off + 1, none⟩) hb).trans e1
      go_upto_region 5 with (refine wpList_store_mid hB3 rfl _ _ _ rfl rfl rfl (by simp) (by kernel_rfl) (by kernel_rfl) ?_)
      have hB4 : Blk (w3.setCells Br 1 [.string B1, .int .i64 D, .slice none 0 0, .slice none 0 0]) Br 172 #[.slice PA xs.length Pc, .string B1, .int .i64 D, .slice none 0 0, .slice none 0 0, .string ⟨st.toArray⟩] := by
        have := (((hB3.set_ 1 (.string B1)).set_ 2 (.int .i64 D)).set_ 3 (.slice none 0 0)).set_ 4 (.slice none 0 0)
        simpa [World.setCells] using this
      have hC4 : Chg [Br] w3 (w3.setCells Br 1 [.string B1, .int .i64 D, .slice none 0 0, .slice none 0 0]) := by
        simp only [World.setCells]
        exact (((Chg.refl.setIn (p := ⟨Br, _, none⟩) (by simp) _).setIn (p := ⟨Br, _, none⟩) (by simp) _).setIn (p := ⟨Br, _, none⟩) (by simp) _).setIn (p := ⟨Br, _, none⟩) (by simp) _
      obtain ⟨w4, hw4⟩ : ∃ X, w3.setCells Br 1 [.string B1, .int .i64 D, .slice none 0 0, .slice none 0 0] = X := ⟨_, rfl⟩
      rw [hw4] at hB4 hC4
      simp only [Act.put]
      rw [hw4]
      have hC34 : Chg [Br] w w4 := (Chg.of_below (S := [Br]) hb3).trans hC4
      have hP4 := hP.past hBr (by decide) hC34
      have hxs4 := (hxs.to hC.own).past hBr hC34
      have hB4s := hC34.size
      have hbw4 : Wrt base Br w w4 := Wrt.of_chg hBr hC34 (Nat.le_trans hbz hC.size)
      have fB4 := hB4.facts
      clear hw4 fB hB3 hBr e1 e2 e13 hC4 hC34 hb3 hd hP hxs
      refine wp_region_ords [0, 1, 3, 4, 5, 6, 7, 8] [(2, false)] [9, 10, 11, 12] (by kernel_rfl) (by kernel_rfl) (fun d _ _ _ _ h => by cases d <;> exact h) ?_
      simp only [List.map_cons, List.map_nil, List.getD_cons_zero, List.getD_cons_succ]
      repeat (go_big_quiet_step (fail))
      refine wpQuiet_nil ?_
      refine wpMid_run rfl (fun K hK => ?_)
      go_simp
      refine (pwhen_any _ 25 _).mono ?_
      rintro e w5 ⟨rfl, hb5⟩
      refine hK _ _ (by (repeat first|exact J0|assumption|(apply J1;assumption)|apply J2|apply J3|apply J4)) ?_
      clear hK K
      have hB4_w5 := hB4.below (show Below _ _ w5 by (repeat first|exact J0|assumption|(apply J1;assumption)|apply J2|apply J3|apply J4))
      have fhB4_w5 := hB4_w5.facts
      refine wpMid_nil ?_
      go_wp2_with (go_at_call 117; refine (pwhen_any _ _ _).mono ?_; rintro e w6 ⟨rfl, hb6⟩)
      go_must (refine (hf2 _ _ _ (Rd.ints2 (by simp) (by go_simp) (by go_simp))).mono ?_)
      rintro e w7 ⟨rfl, hb7⟩
      have hb47 : Below w4.heap.size w4 w7 := by (repeat first|exact J0|assumption|(apply J1;assumption)|apply J2|apply J3|apply J4)
      go_wp2
      go_ret
      have hz7 := hb47.size
      have hc7 := hC.size
      refine ⟨rfl, hbw4.then_ hb47 (by omega), fun _ => ⟨xs, .slice PA xs.length Pc, (w1, D, (none, 0, 0), (none, 0, 0)), w7, ?_, hP4.below hb47, hxs4.below hb47, Kpt.refl, by omega, ?_, by omega, hn, ?_, h8⟩⟩
      · have := hB4.below hb47
        rw [← HB1.out] at this
        exact this
      · rw [HP.out]
        exact ⟨w7.heap.size, Nat.le_refl _, Nat.le_refl _, rfl, rfl, Own.nil_, (fun k e => by cases e), Own.nil_, fun _ => rfl⟩
      · rintro p hp
        cases hp
        rw [HP.out]
        exact ⟨hw1l, by simp, by simp, fun _ => rfl⟩
  · have HE : Hid (begE W l = 25) := by unfold Hid begE; rw [if_pos (.inl h3)]
    have t3 : ((W.length : Int) != 3) = true := by simp; omega
    have t4 : ((W.length : Int) == 3) = false := by simp; omega
    clear h3
    go_enter Tryz.func159, Tryz.ntmps159
    go_wp2
    go_ret
    exact ⟨by rw [HE.out]; rfl, Wrt.refl, fun h => by rw [HE.out] at h; exact absurd h (by decide)⟩
end Go.Proofs.YtkkefahobjlagaaGreatDoor
namespace Go.Proofs.YtkkefahobjlagaaGreatDoor
open Go.RowKit Go.ChangeMaps
set_option maxHeartbeats 4000000
set_option maxRecDepth 100000
def bV (b : Bool) : Value := .bool b
theorem und_bars : Tryz.prog.underlying 221 = some (.map 77 4) := by kernel_rfl
theorem zero_bool (w : World) : (zeroValue 4).run Tryz.prog w = .ok (.bool false) w := by kernel_rfl
theorem seen_lk {w : World} {r c : Nat} {m : List (Bar × Bool × Nat)} {S : List Bar} (h : MapAt bk bV w r m c) (hs : ∀ b, mget b m = seenO S b) (x y s : Int) :
  (Instr.lookup 221 (.map (some r)) (.agg #[.int .i64 x, .int .i64 y, .int .i64 s]) false).run Tryz.prog w = .ok (.bool (decide ((x, y, s) ∈ S))) w := by
 have := h.look bar_key und_bars (zero_bool w) (x, y, s)
 refine this.trans ?_
 rw [hs (x, y, s)]
 unfold seenO
 by_cases hb : (x, y, s) ∈ S
 ·rw [if_pos hb, decide_eq_true hb]; rfl
 ·rw [if_neg hb, decide_eq_false hb]
theorem idx4_at (k : Knot) (j : Nat) (hj : j < 4) {x y s : Int} (h : arB k j = (x, y, s)) (w : World) : (Instr.index 222 (.agg #[.int .i64 (k.1 - 1), .int .i64 (k.2 - 1), .int .i64 1, .int .i64 (k.1 + 1), .int .i64 (k.2 - 1), .int .i64 (-1), .int .i64 k.1, .int .i64 k.2, .int .i64 (-1), .int .i64 k.1, .int .i64 k.2, .int .i64 1]) (.int .i64 j)).run Tryz.prog w = .ok (.agg #[.int .i64 x, .int .i64 y, .int .i64 s]) w := by
 obtain rfl | rfl | rfl | rfl : j = 0 ∨ j = 1 ∨ j = 2 ∨ j = 3 := by omega
 all_goals (simp only [arB, Prod.mk.injEq] at h; obtain ⟨rfl, rfl, rfl⟩ := h)
 ·exact idx4_0 _ _ _ _ _ _ _ _ _ _ _ _ w
 ·exact idx4_1 _ _ _ _ _ _ _ _ _ _ _ _ w
 ·exact idx4_2 _ _ _ _ _ _ _ _ _ _ _ _ w
 ·exact idx4_3 _ _ _ _ _ _ _ _ _ _ _ _ w
theorem idx2_at (x y s : Int) (n : Nat) (hn : n < 2) {p q : Int} (h : endK (x, y, s) n = (p, q)) (w : World) : (Instr.index 207 (.agg #[.int .i64 x, .int .i64 y, .int .i64 (x + s), .int .i64 (y + 1)]) (.int .i64 n)).run Tryz.prog w = .ok (.agg #[.int .i64 p, .int .i64 q]) w := by
 obtain rfl | rfl : n = 0 ∨ n = 1 := by omega
 all_goals (simp only [endK, lowK, uppK, Prod.mk.injEq] at h; obtain ⟨rfl, rfl⟩ := h; kernel_rfl)
theorem Own.ne_own {α β : Type} {enc : α → List Value} {enc' : β → List Value} {sz sz' base base' : Nat} {e e' : TypeId} {w : World} {v u : Value} {l : List α} {r : List β} (h : Own enc sz base e w v l) (h' : Own enc' sz' base' e' w u r) (hne : e ≠ e') : v.ownBlock = none ∨ v.ownBlock ≠ u.ownBlock := by
 rcases h.2 with ⟨rfl, _⟩ | ⟨g, cap, cur, rfl, _, hh, _⟩
 ·exact .inl rfl
 ·refine .inr fun e1 => ?_
  rcases h'.2 with ⟨rfl, _⟩ | ⟨g', cap', cur', rfl, _, hh', _⟩
  ·cases e1
  ·have : g = g' := by simpa [Value.ownBlock] using e1
   subst this
   rw [hh] at hh'
   cases hh'
   exact hne rfl
theorem Own.one_bar {w : World} {base : Nat} (h : base ≤ w.heap.size) (x y s : Int) : OwB base (w.alloc (.cells #[.int .i64 x, .int .i64 y, .int .i64 s] 77)) (.slice (some ⟨w.heap.size, 0, none⟩) 1 1) [(x, y, s)] :=
 ⟨by simp [bc], .inr ⟨w.heap.size, 1, #[.int .i64 x, .int .i64 y, .int .i64 s], rfl, h, heap_alloc_new w _, by simp, by simp [maxLen], by simp, by simp [bc]⟩⟩
def PrS (l S : List Bar) (r : Nat) (W2 wr : World) (p : Value) (P : List Bar) : Prop :=
 OwB W2.heap.size wr p P ∧ (∃ m c, MapAt bk bV wr r m c ∧ MOk m c ∧ ∀ q, mget q m = seenO (S ++ P) q) ∧ PartOk l S P ∧ Chg [r] W2 wr
theorem PrS.below {l S : List Bar} {r : Nat} {W2 wr w' : World} {p : Value} {P : List Bar} (h : PrS l S r W2 wr p P) (hb : Below wr.heap.size wr w') : PrS l S r W2 w' p P := by
 obtain ⟨h1, ⟨m, c, h2, h3⟩, h4, h5⟩ := h
 exact ⟨h1.below hb, ⟨m, c, h2.below hb, h3⟩, h4, h5.then_ hb⟩
theorem PrS.same {l S : List Bar} {r : Nat} {W2 wr : World} {p : Value} {P P' : List Bar} (h : PrS l S r W2 wr p P) (e : P' = P) : PrS l S r W2 wr p P' := by rw [e]; exact h
theorem PrS.bl {l S : List Bar} {r : Nat} {w W2 wr : World} {p : Value} {P : List Bar} (h : PrS l S r W2 wr p P) (hr : w.heap.size ≤ r) (hw : Below w.heap.size w W2) : Below w.heap.size w wr :=
 hw.trans (h.2.2.2.below (by simpa using hr) hw.size)
theorem PrS.join {l S : List Bar} {r : Nat} {W2 wr : World} {p : Value} {P : List Bar} {x y s : Int} (h : PrS l S r W2 wr p P) (hn : (x, y, s) ∉ S) (hp : (x, y, s) ∉ P) (hl : (x, y, s) ∈ l) :
  ∃ w6, (Instr.mapUpdate 221 (.map (some r)) (.agg #[.int .i64 x, .int .i64 y, .int .i64 s]) (.bool true)).run Tryz.prog wr = .ok () w6 ∧ OwB W2.heap.size w6 p P ∧ Chg [r] wr w6 ∧ r < wr.heap.size ∧
   ∀ v' w7, OwB W2.heap.size w7 v' (P ++ [(x, y, s)]) → (w6.alloc (.cells #[.int .i64 x, .int .i64 y, .int .i64 s] 77)).grownBy w7 p.ownBlock → PrS l S r W2 w7 v' (P ++ [(x, y, s)]) := by
 obtain ⟨h1, ⟨m, c, h2, h3, h4⟩, h5, h6⟩ := h
 obtain ⟨w6, hput, hM6, hch6⟩ := h2.put_ bar_key und_bars (x, y, s) true
 have h16 := h1.chg1 hch6 (h2.ne_own h1)
 refine ⟨w6, hput, h16, hch6, h2.lt, fun v' w7 ho hg => ⟨ho, ⟨_, _, (hM6.alloc _).grown hg (Ne.symm (hM6.ne_own h16)), h3.put _ _, fun q => ?_⟩, ?_, ?_⟩⟩
 ·rw [← List.append_assoc]; exact seen_put h4 q
 ·have := h5.try_ (x, y, s)
  unfold tryP at this
  rwa [if_neg (by simp [hn, hp, hl])] at this
 ·exact chg_row (h6.trans (hch6.trans (Chg.of_below (bl_alloc bl_refl _)))) (h16.alloc _) hg
theorem nparts_any {v : Value} (l : List Bar) (w : World) (h : SlB w v l) (hok : NetOk l) : Calls Tryz.prog 95 #[v] w (RRB w (partsL l)) := by
  have hS0 := h
  obtain ⟨A, c, rfl, hlc, hcm, h⟩ := h
  have HK := Lib.hid hok
  have hlen := hok.len
  have hM0 := MapAt.new w bk bV
  clear hok
  go_enter Tryz.func95, Tryz.ntmps95
  go_wp2
  go_loopw [3, 16] (fun o i wr => ∃ k : Nat, k ≤ l.length ∧ i = .int .i64 k ∧ (∃ ts, OwV (w.heap.size + 1) wr o ts ∧ RowsAt (w.heap.size + 1) wr ts (prtO l k)) ∧ (∃ m c, MapAt bk bV wr w.heap.size m c ∧ Hid (MOk m c ∧ ∀ q, mget q m = seenO (prtO l k).flatten q)) ∧ Below w.heap.size w wr) (fun _ i _ => l.length - (intOf i).toNat)
  case atStart => exact ⟨0, Nat.zero_le _, rfl, ⟨[], Own.nil_, trivial⟩, ⟨[], 0, hM0, MOk.nil_, fun q => by simp [prtO, mget, seenO]⟩, by (repeat first|exact J0|assumption|(apply J1;assumption)|apply J2|apply J3|apply J4)⟩
  case round =>
    clear hM0
    obtain ⟨k, hk, rfl, ⟨ts, hT, hR⟩, ⟨m, cm, hM, HM⟩, hbw⟩ := hrel
    obtain ⟨wo, rfl⟩ : ∃ x, x = wr := ⟨_, rfl⟩
    by_cases hlt : k < l.length
    · have hr := h.below hbw
      obtain ⟨b, off, rfl, hb, e0, e1, e2⟩ := hr.bar hlt
      have hmem := Lib.hid (List.getElem_mem hlt)
      have HD := Lib.hid (prtO_succ hlt)
      have hpl := prtO_len l k
      obtain ⟨O, hO⟩ : ∃ O, prtO l k = O := ⟨_, rfl⟩
      rw [hO] at HM HD hpl hR
      clear hO
      obtain ⟨⟨x, y, s⟩, hx⟩ : ∃ z, l[k] = z := ⟨_, rfl⟩
      rw [hx] at e0 e1 e2 HD hmem
      simp only at e0 e1 e2
      clear hx
      have hMa := hM.alloc (.cells #[.int .i64 x, .int .i64 y, .int .i64 s] 77)
      have hlk := seen_lk hMa HM.out.2 x y s
      have hlt2 := hM.lt
      obtain ⟨q, hq⟩ : ∃ q, decide ((x, y, s) ∈ O.flatten) = q := ⟨_, rfl⟩
      rw [hq] at hlk
      cases q
      · have hnS := Lib.hid (of_decide_eq_false hq)
        have HD2 : Hid (prtO l (k + 1) = O ++ [srtB (colP l O.flatten (l.length + 1) 0 [(x, y, s)])]) := by unfold Hid; rw [HD.out, if_neg hnS.out]
        clear hq HD
        obtain ⟨w2, hput, hM2, hch2⟩ := hMa.put_ bar_key und_bars (x, y, s) true
        have hput' : (Instr.mapUpdate 221 (.map (some w.heap.size)) (.agg #[.int .i64 x, .int .i64 y, .int .i64 s]) (.bool true)).run Tryz.prog (wo.alloc (.cells #[.int .i64 x, .int .i64 y, .int .i64 s] 77)) = .ok () w2 := hput
        have hBx := (Blk.new wo 77 #[.int .i64 x, .int .i64 y, .int .i64 s]).chg hch2 (by simp; omega)
        have fBx := hBx.facts
        have HM2 := Lib.hid (show MOk (mput ((x, y, s) : Bar) true cm m) (mclk ((x, y, s) : Bar) m cm) ∧ ∀ q, mget q (mput ((x, y, s) : Bar) true cm m) = seenO (O.flatten ++ [(x, y, s)]) q from ⟨HM.out.1.put _ _, fun q => seen_put HM.out.2 q⟩)
        have hT2 := (hT.alloc (.cells #[.int .i64 x, .int .i64 y, .int .i64 s] 77)).chg1 hch2 (hMa.ne_own (hT.alloc _))
        have hR2 : RowsAt (w.heap.size + 1) w2 ts O := hR.map_ fun v L h => (h.alloc (.cells #[.int .i64 x, .int .i64 y, .int .i64 s] 77)).chg1 hch2 (hMa.ne_own (h.alloc _))
        have hbwa : Below w.heap.size w (wo.alloc (.cells #[.int .i64 x, .int .i64 y, .int .i64 s] 77)) := by (repeat first|exact J0|assumption|(apply J1;assumption)|apply J2|apply J3|apply J4)
        have hbw2 : Below w.heap.size w w2 := ((Chg.of_below hbwa).trans (hch2.mono (S' := [w.heap.size]) (by simp))).below (by simp) (Nat.le_refl _)
        have hMlt := hM2.lt
        have hP0 : PrS l O.flatten w.heap.size w2 (w2.alloc (.cells #[.int .i64 x, .int .i64 y, .int .i64 s] 77)) (.slice (some ⟨w2.heap.size, 0, none⟩) 1 1) [(x, y, s)] :=
          ⟨Own.one_bar (Nat.le_refl _) x y s, ⟨_, _, hM2.alloc _, HM2.out⟩, PartOk.start hmem.out hnS.out, Chg.of_below (bl_alloc bl_refl _)⟩
        clear hput hM hMa hch2 hT hR HM hbwa
        go_wp2
        go_step3
        go_wp2
        refine wp_label ?_
        go_wp2
        clear hput' hBx fBx hlk
        go_loopw [7, 8] (fun p i wr => ∃ (j : Nat) (P : List Bar), i = .int .i64 j ∧ j ≤ P.length ∧ PrS l O.flatten w.heap.size w2 wr p P ∧ Hid (colP l O.flatten (l.length + 1) 0 [(x, y, s)] = colP l O.flatten (l.length + 1 - j) j P)) (fun _ i _ => l.length + 1 - (intOf i).toNat)
        case atStart => exact ⟨0, _, rfl, by simp, hP0, rfl⟩
        case round =>
          clear hP0
          obtain ⟨j, P, rfl, hj, hP, HC⟩ := hrel
          obtain ⟨wj, rfl⟩ : ∃ x, x = wr := ⟨_, rfl⟩
          have hPl := hP.2.2.1.len
          have HPs := Lib.hid hP.2.2.1.sub
          obtain ⟨A2, c2, rfl⟩ := hP.1.shape
          by_cases hjP : j < P.length
          · obtain ⟨A2', c2', e2', _, _, hr2⟩ := hP.1.rd bc_len
            obtain ⟨rfl, rfl⟩ : A2 = A2' ∧ c2 = c2' := by simpa using e2'
            clear e2'
            obtain ⟨b2, off2, rfl, hb2, e0, e1, e2⟩ := hr2.bar hjP
            have hbo := HK.out.ok _ (HPs.out _ (List.getElem_mem hjP))
            have HC2 : Hid (colP l O.flatten (l.length + 1) 0 [(x, y, s)] = colP l O.flatten (l.length + 1 - (j + 1)) (j + 1) (enP l O.flatten P[j] P 2)) := by
              unfold Hid
              rw [HC.out, show l.length + 1 - j = (l.length + 1 - (j + 1)) + 1 by omega, colP_go hjP]
            obtain ⟨⟨px, py, ps⟩, hx⟩ : ∃ z, P[j] = z := ⟨_, rfl⟩
            rw [hx] at e0 e1 e2 hbo HC2
            simp only at e0 e1 e2
            clear hx HC
            obtain ⟨q1, q2, q3⟩ := hbo
            simp only at q1 q2 q3
            go_wp2_with fail
            refine (nends_any _ _ _ (by omega) (by omega) (by omega) _).mono ?_
            rintro e w3 ⟨rfl, hb3⟩
            have hP3 := hP.below hb3
            clear hP hr2 e0 e1 e2 hb2 hb3
            go_wp2
            go_loopw [7, 38] (fun p i wr => ∃ n : Nat, n ≤ 2 ∧ i = .int .i64 n ∧ PrS l O.flatten w.heap.size w2 wr p (enP l O.flatten (px, py, ps) P n)) (fun _ i _ => 2 - (intOf i).toNat)
            case atStart => exact ⟨0, by omega, rfl, hP3⟩
            case round =>
              clear hP3
              obtain ⟨n, hn, rfl, hP⟩ := hrel
              obtain ⟨wn, rfl⟩ : ∃ x, x = wr := ⟨_, rfl⟩
              have hPl3 := hP.2.2.1.len
              have hPl0 := enP_len l O.flatten (px, py, ps) P n
              by_cases hn2 : n < 2
              · obtain ⟨⟨ex, ey⟩, hex⟩ : ∃ z, endK (px, py, ps) n = z := ⟨_, rfl⟩
                have hidx := idx2_at px py ps n hn2 hex
                have HE : Hid (enP l O.flatten (px, py, ps) P (n + 1) = arP l O.flatten (ex, ey) (enP l O.flatten (px, py, ps) P n) 4) := by unfold Hid; rw [enP, hex]
                have hnear : (-300000 ≤ ex ∧ ex ≤ 300000) ∧ (-300000 ≤ ey ∧ ey ≤ 300000) := by
                  obtain rfl | rfl : n = 0 ∨ n = 1 := by omega
                  all_goals (simp only [endK, lowK, uppK, Prod.mk.injEq] at hex; omega)
                clear hex
                obtain ⟨E, hE⟩ : ∃ E, enP l O.flatten (px, py, ps) P n = E := ⟨_, rfl⟩
                rw [hE] at hP HE hPl3 hPl0
                clear hE
                have hK1 := Blk.new wn 40 #[.int .i64 ex, .int .i64 ey]
                have fK1 := hK1.facts
                go_wp2_with fail
                refine (naround_any ex ey (by omega) (by omega) _).mono ?_
                rintro e w4 ⟨rfl, hb4⟩
                have hP4 := (hP.below (bl_alloc bl_refl (.cells #[.int .i64 ex, .int .i64 ey] 40))).below hb4
                clear hP hK1 fK1 hidx hb4
                go_wp2
                go_loopw [7, 43] (fun p i wr => ∃ t : Nat, t ≤ 4 ∧ i = .int .i64 t ∧ PrS l O.flatten w.heap.size w2 wr p (arP l O.flatten (ex, ey) E t)) (fun _ i _ => 4 - (intOf i).toNat)
                case atStart => exact ⟨0, by omega, rfl, hP4⟩
                case round =>
                  clear hP4
                  obtain ⟨t, ht, rfl, hP⟩ := hrel
                  obtain ⟨wt, rfl⟩ : ∃ x, x = wr := ⟨_, rfl⟩
                  by_cases ht4 : t < 4
                  · have hPl5 := hP.2.2.1.len
                    have hwt := hP.2.2.2.size
                    have hbt := hP.bl (w := w) (Nat.le_refl _) hbw2
                    obtain ⟨⟨ax, ay, aq⟩, hax⟩ : ∃ z, arB (ex, ey) t = z := ⟨_, rfl⟩
                    have hidx := idx4_at (ex, ey) t ht4 hax
                    simp only at hidx
                    have HT : Hid (arP l O.flatten (ex, ey) E (t + 1) = tryP l O.flatten (arP l O.flatten (ex, ey) E t) (ax, ay, aq)) := by unfold Hid; rw [arP, hax]
                    clear hax
                    obtain ⟨F, hF⟩ : ∃ F, arP l O.flatten (ex, ey) E t = F := ⟨_, rfl⟩
                    rw [hF] at hP HT hPl5
                    clear hF
                    have hA1 := Blk.new wt 77 #[.int .i64 ax, .int .i64 ay, .int .i64 aq]
                    have hPa := hP.below (bl_alloc bl_refl (.cells #[.int .i64 ax, .int .i64 ay, .int .i64 aq] 77))
                    obtain ⟨wa, hwa⟩ : ∃ X, wt.alloc (.cells #[.int .i64 ax, .int .i64 ay, .int .i64 aq] 77) = X := ⟨_, rfl⟩
                    have hbta : Below w.heap.size w wa := by rw [← hwa]; (repeat first|exact J0|assumption|(apply J1;assumption)|apply J2|apply J3|apply J4)
                    go_upto_region 18 with fail
                    rw [hwa] at hA1 hPa
                    have fA1 := hA1.facts
                    have hSl := hS0.below hbta
                    have hlk := (fun (hM : ∃ m c, MapAt bk bV wa w.heap.size m c ∧ MOk m c ∧ ∀ q, mget q m = seenO (O.flatten ++ F) q) => match hM with | ⟨m, c, h1, _, h3⟩ => seen_lk h1 h3 ax ay aq) hPa.2.1
                    obtain ⟨A5, c5, rfl⟩ := hPa.1.shape
                    obtain ⟨q, hq⟩ : ∃ q, decide ((ax, ay, aq) ∈ O.flatten ++ F) = q := ⟨_, rfl⟩
                    rw [hq] at hlk
                    clear hP hwa hidx
                    cases q
                    · have hnq := of_decide_eq_false hq
                      rw [List.mem_append, not_or] at hnq
                      have HN := Lib.hid hnq
                      clear hq hnq
                      have hc := nhas_any l ax ay aq wa hSl HK.out.sorted (by omega)
                      obtain ⟨q, hq⟩ : ∃ q, hasb l (ax, ay, aq) = q := ⟨_, rfl⟩
                      rw [hq] at hc
                      cases q
                      · have HT2 : Hid (arP l O.flatten (ex, ey) E (t + 1) = F) := by
                          unfold Hid; rw [HT.out]; unfold tryP; rw [if_pos (.inr (of_decide_eq_false hq))]
                        clear hq HT
                        go_wp2_with (go_at_call 150; refine hc.mono ?_; rintro e w5 ⟨rfl, hb5⟩)
                        go_roundw
                        case rel => exact ⟨t + 1, by omega, by go_num, (hPa.below hb5).same HT2.out⟩
                        case measure => simp [intOf]; omega
                      · have hml : (ax, ay, aq) ∈ l := of_decide_eq_true hq
                        have HT2 : Hid (arP l O.flatten (ex, ey) E (t + 1) = F ++ [(ax, ay, aq)]) := by
                          unfold Hid; rw [HT.out]; unfold tryP; rw [if_neg (by simp [HN.out.1, HN.out.2, hml])]
                        have HML := Lib.hid hml
                        clear hq HT hml
                        go_wp2_with fail
                        go_at_call 150
                        refine hc.mono ?_
                        rintro e w5 ⟨rfl, hb5⟩
                        have hP5 := hPa.below hb5
                        have hA5 := hA1.below hb5
                        have fA5 := hA5.facts
                        obtain ⟨w6, hput, hO6, hch6, hrlt, hjoin⟩ := hP5.join HN.out.1 HN.out.2 HML.out
                        have hA6 := hA5.chg hch6 (by simp; omega)
                        have fA6 := hA6.facts
                        clear hc hlk fA1 hA1 hPa
                        go_wp2_with (at_builtin; refine wpList_appB1 hO6 rfl _ _ rfl rfl rfl rfl (by omega) (Nat.le_trans hP5.2.2.2.size hch6.size) ?_; intro v7 w7 hO7 hg7; obtain ⟨A7, c7, rfl⟩ := hO7.shape)
                        have hJ := (hjoin _ _ hO7 hg7).same HT2.out
                        simp only [List.length_append, List.length_cons, List.length_nil, Nat.zero_add] at hJ
                        go_roundw
                        case rel => exact ⟨t + 1, by omega, by go_num, hJ⟩
                        case measure => simp [intOf]; omega
                    · have HT2 : Hid (arP l O.flatten (ex, ey) E (t + 1) = F) := by
                        unfold Hid; rw [HT.out]; unfold tryP
                        rw [if_pos (.inl (List.mem_append.1 (of_decide_eq_true hq)))]
                      clear hq HT
                      go_wp2
                      go_roundw
                      case rel => exact ⟨t + 1, by omega, by go_num, hPa.same HT2.out⟩
                      case measure => simp [intOf]; omega
                  · obtain rfl : t = 4 := by omega
                    go_wp2
                    go_roundw
                    case rel => exact ⟨n + 1, by omega, by go_num, hP.same HE.out⟩
                    case measure => simp [intOf]; omega
              · obtain rfl : n = 2 := by omega
                go_wp2
                go_roundw
                case rel => exact ⟨j + 1, _, by go_num, by omega, hP, HC2⟩
                case measure => simp [intOf]; omega
          · obtain rfl : j = P.length := by omega
            have HC3 : Hid (colP l O.flatten (l.length + 1) 0 [(x, y, s)] = P) := by unfold Hid; rw [HC.out, colP_end (by omega)]
            rw [HC3.out] at HD2
            have hO5 := hP.1
            have hch5 := hP.2.2.2
            have hMe := hP.2.1
            clear hP HPs HC HC3
            go_wp2_with fail
            go_at_call 143
            refine (sortB_any P _ hO5 (by omega)).mono ?_
            rintro e w8 ⟨rfl, hO8, hg8⟩
            have hch8 := chg_row hch5 hO5 hg8
            have hT8 := hT2.chg1 hch8 (hM2.ne_own hT2)
            have hR8 : RowsAt (w.heap.size + 1) w8 ts O := hR2.map_ fun v L h => h.chg1 hch8 (hM2.ne_own h)
            obtain ⟨m8, c8, hM8, hMo8, hMg8⟩ := hMe
            have hM8' := hM8.grown hg8 (Ne.symm (hM8.ne_own hO5))
            have hbw8 : Below w.heap.size w w8 := hbw2.trans (hch8.below (by simp) hbw2.size)
            have hO8' : OwB (w.heap.size + 1) w8 (slV (A2, P.length, c2)) (srtB P) := hO8.base_mono (by omega)
            have hTl : ts.length ≤ 4096 := by have := hR2.len; omega
            have h8l : w.heap.size + 1 ≤ w8.heap.size := by have := hM8'.lt; omega
            have HMg := Lib.hid hMg8
            clear hMg8 hM8 hg8 hch8 hch5 hO5 hO8 hT2 hR2 HM2 hM2
            go_wp2_with (at_builtin; refine wpList_appR hT8 rfl _ _ rfl rfl rfl rfl (by omega) (by omega) ?_; intro v9 w9 hT9 hg9; obtain ⟨A9, c9, rfl⟩ := hT9.shape)
            have hT8a := hT8.alloc (.cells #[.slice A2 P.length c2] 36)
            have hO8a := hO8'.alloc (.cells #[.slice A2 P.length c2] 36)
            have hR8a : RowsAt (w.heap.size + 1) (w8.alloc (.cells #[.slice A2 P.length c2] 36)) ts O := hR8.map_ fun v L h => h.alloc _
            have hM8a := hM8'.alloc (.cells #[.slice A2 P.length c2] 36)
            have hO9 := hO8a.kept hg9 (hO8a.ne_own hT8a (by decide))
            have hR9 : RowsAt (w.heap.size + 1) w9 (ts ++ [(A2, P.length, c2)]) (O ++ [srtB P]) := (hR8a.map_ fun v L h => h.kept hg9 (h.ne_own hT8a (by decide))).snoc hO9
            have hM9 := hM8a.grown hg9 (Ne.symm (hM8a.ne_own hT8a))
            have hbw9 : Below w.heap.size w w9 := bl_grown hg9 (bl_alloc hbw8 _) (fun k e => by have := (hT8.lt k e).1; omega)
            have hT9' := hT9
            simp only [List.length_append, List.length_cons, List.length_nil, Nat.zero_add] at hT9'
            rw [Exit.noGoto_normal]
            go_wp2
            go_roundw
            case rel => exact ⟨k + 1, by omega, by go_num, ⟨_, hT9', by rw [HD2.out]; exact hR9⟩, ⟨_, _, hM9, hMo8, fun q => by rw [HD2.out]; exact seen_congr HMg.out (fun b => by simp [srtB_mem]) q⟩, hbw9⟩
            case measure => simp [intOf]; omega
      · have HD2 : Hid (prtO l (k + 1) = O) := by unfold Hid; rw [HD.out, if_pos (of_decide_eq_true hq)]
        clear hq HD
        go_wp2
        go_step3
        go_wp2
        rw [Exit.noGoto_exit]
        go_wp2
        go_roundw
        case rel => exact ⟨k + 1, by omega, by go_num, ⟨ts, hT.alloc _, by rw [HD2.out]; exact hR.map_ fun v L h => h.alloc _⟩, ⟨m, cm, hMa, by rw [HD2.out]; exact HM⟩, by (repeat first|exact J0|assumption|(apply J1;assumption)|apply J2|apply J3|apply J4)⟩
        case measure => simp [intOf]; omega
    · have hE : Hid (prtO l k = partsL l) := by unfold Hid partsL; rw [show k = l.length by omega]
      rw [hE.out] at hR
      go_wp2
      go_ret
      exact ⟨_, rfl, ⟨ts, hT.base_mono (Nat.le_succ _), hR.map_ fun v L h => h.base_mono (Nat.le_succ _)⟩, hbw⟩
end Go.Proofs.YtkkefahobjlagaaGreatDoor

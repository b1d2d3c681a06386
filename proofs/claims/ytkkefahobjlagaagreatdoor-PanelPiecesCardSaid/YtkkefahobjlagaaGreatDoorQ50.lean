/- Panels with the same letters; sizes of moved and cut panels, plain. Conditions: the panels are valid. -/
import Derived.Test.YtkkefahobjlagaaGreatDoorQ49
import Derived.Test.YtkkefahobjlagaaGreatDoorQ45
import Derived.Test.YtkkefahobjlagaaGreatDoorQ47
import Derived.Test.YtkkefahobjlagaaGreatDoorQ26
import Derived.Test.YtkkefahobjlagaaGreatDoorQ42
import Derived.Test.YtkkefahobjlagaaGreatDoorQ07
import Derived.Test.YtkkefahobjlagaaGreatDoorQ25
import Derived.Test.YtkkefahobjlagaaGreatDoorQ36
namespace Go.Proofs.YtkkefahobjlagaaGreatDoor
open Go.RowKit Go.ChangeMaps
set_option maxHeartbeats 4000000
set_option maxRecDepth 100000
theorem plnL_len (l : List Stp) : (plnL l).length ≤ l.length := by
 have h := refO_len l
 rwa [refO_end] at h
theorem like_out {p q : Pan} (hw : q.2.1 = p.2.1) (hs : ∀ r, SameL (stpL (sideP q r)) (stpL (sideP p r))) (r : Bool) : outP q r = outP p r := by
 have e : fromP q r = fromP p r := by
  cases r
  ·rfl
  ·show ((2 * q.2.1, 0) : Knot) = (2 * p.2.1, 0)
   rw [hw]
 unfold outP
 rw [e]
 exact SameL.out (hs r)
theorem like_high {p q : Pan} (hs : ∀ r, SameL (stpL (sideP q r)) (stpL (sideP p r))) : heightP q = heightP p := SameL.rise (hs false)
theorem like_err {p q : Pan} (hp : panE p = 0) (hn : q.1 = p.1) (hw : q.2.1 = p.2.1) (hL : SideOk q.2.2.1) (hR : SideOk q.2.2.2) (hs : ∀ r, SameL (stpL (sideP q r)) (stpL (sideP p r))) : panE q = 0 := by
 have ok := panE_zero hp
 obtain ⟨h0, h1⟩ := panE_parts hp
 obtain ⟨a1, a2, _, _⟩ := firstI4_zero (show firstI [whenI (!nameR p.1) 8, withinI p.2.1 1 128, sideE p.2.2.1, sideE p.2.2.2] = 0 from h0)
 have hh := like_high hs
 have hh2 := ok.high
 have h0' : panE0 q = 0 := by
  show firstI [whenI (!nameR q.1) 8, withinI q.2.1 1 128, sideE q.2.2.1, sideE q.2.2.2] = 0
  rw [hn, hw, a1, a2, sideE_put hL, sideE_put hR]
  rfl
 have h1' : panE1 q = 0 := by
  unfold panE1
  rw [hh]
  have e : riseL (stpL q.2.2.2) = heightP p := (SameL.rise (hs true) : riseL (stpL q.2.2.2) = riseL (stpL p.2.2.2)).trans ok.same
  rw [e]
  unfold whenI
  rw [decide_eq_false (by omega), decide_eq_false (by omega), decide_eq_false (by omega)]
  rfl
 have hc : crossB (outP q false) (outP q true) ((heightP q).toNat + 1) = false := by
  rw [hh, like_out hw hs, like_out hw hs]
  exact ok.free
 unfold panE
 rw [if_neg (by simp [h0']), if_neg (by simp [h1']), hc]
 rfl
theorem cut_stack_err {p : Pan} {y : Int} {i k : Nat} (h : CutOk p y i k) (hp : panE p = 0) (h1 : (stpL p.2.2.1).length ≤ 64) (h2 : (stpL p.2.2.2).length ≤ 64) : panE (stkQ (cutA p i k) (cutB p i k)) = 0 := by
 have hs := cut_stack p i k
 refine like_err hp rfl rfl ⟨?_, ?_, ?_⟩ ⟨?_, ?_, ?_⟩ hs
 ·show (plnL ((stpL p.2.2.1).take i) ++ plnL ((stpL p.2.2.1).drop i)).length ≤ 64
  have a := plnL_len ((stpL p.2.2.1).take i)
  have b := plnL_len ((stpL p.2.2.1).drop i)
  have c : ((stpL p.2.2.1).take i).length + ((stpL p.2.2.1).drop i).length = (stpL p.2.2.1).length := by rw [← List.length_append, List.take_append_drop]
  rw [List.length_append]
  omega
 ·intro e he
  rcases List.mem_append.1 he with he | he
  ·exact h.a.left.ok e he
  ·exact h.b.left.ok e he
 ·have : (stpL (stkQ (cutA p i k) (cutB p i k)).2.2.1).length = (stpL p.2.2.1).length := (hs false).1
  omega
 ·show (plnL ((stpL p.2.2.2).take k) ++ plnL ((stpL p.2.2.2).drop k)).length ≤ 64
  have a := plnL_len ((stpL p.2.2.2).take k)
  have b := plnL_len ((stpL p.2.2.2).drop k)
  have c : ((stpL p.2.2.2).take k).length + ((stpL p.2.2.2).drop k).length = (stpL p.2.2.2).length := by rw [← List.length_append, List.take_append_drop]
  rw [List.length_append]
  omega
 ·intro e he
  rcases List.mem_append.1 he with he | he
  ·exact h.a.right.ok e he
  ·exact h.b.right.ok e he
 ·have : (stpL (stkQ (cutA p i k) (cutB p i k)).2.2.2).length = (stpL p.2.2.2).length := (hs true).1
  omega
theorem cut_stack_out (p : Pan) (i k : Nat) (r : Bool) : outP (stkQ (cutA p i k) (cutB p i k)) r = outP p r := like_out (q := stkQ (cutA p i k) (cutB p i k)) (p := p) rfl (cut_stack p i k) r
theorem CutOk.top {p : Pan} {y : Int} {i k : Nat} (h : CutOk p y i k) : topX (cutA p i k) true - topX (cutA p i k) false = 2 * (cutB p i k).2.1 := by
 rw [h.wid]
 exact cut_top (splitI_hit h.i_).1 (splitI_hit h.k_).1
theorem CutOk.netE {p : Pan} {y : Int} {i k : Nat} (h : CutOk p y i k) (hl : (netL p).length ≤ 4096) : Go.Proofs.YtkkefahobjlagaaGreatDoor.netE (netL (cutA p i k)) = 0 ∧ Go.Proofs.YtkkefahobjlagaaGreatDoor.netE (netL (cutB p i k)) = 0 ∧ Go.Proofs.YtkkefahobjlagaaGreatDoor.netE ((netL (cutB p i k)).map (shB (cutX p i, y))) = 0 ∧ (netL (cutA p i k)).length + (netL (cutB p i k)).length = (netL p).length := by
 have e := h.net
 have hlen : (netL (cutA p i k)).length + (netL (cutB p i k)).length = (netL p).length := by rw [e]; simp
 refine ⟨netL_netE h.a (by omega), netL_netE h.b (by omega), ?_, hlen⟩
 have hp := netL_netE h.ok hl
 refine netE_sub hp (shift_sorted (netN_asc _ _) _) fun b hb => ?_
 rw [e]
 exact List.mem_append.2 (.inr hb)
theorem CutOk.union {p : Pan} {y : Int} {i k : Nat} (h : CutOk p y i k) : setB (netL (cutA p i k) ++ (netL (cutB p i k)).map (shB (cutX p i, y))) = netL p := sortedB_eq (setB_sorted _) (netN_asc _ _) fun x => by
 rw [setB_mem, List.mem_append, h.mem x]
theorem Small.cut {p : Pan} {y : Int} {i k : Nat} (h : CutOk p y i k) (hs : Small p 16) : (-48 ≤ cutX p i ∧ cutX p i ≤ 48) ∧ 1 ≤ y ∧ y ≤ 32 := by
 obtain ⟨i1, i2⟩ := splitI_hit h.i_
 have e : cutX p i = (outP p false)[i].1 := by unfold cutX; rw [List.getD_eq_getElem?_getD, List.getElem?_eq_getElem i1, Option.getD_some]
 have := hs.near false _ (List.getElem_mem i1)
 have h1 := h.highA
 have h2 := h.a.high
 have h3 := h.b.high
 have h4 := cut_high (p := p) (i := i) (k := k)
 have h5 := hs.high
 omega
theorem Small.top {p : Pan} {n : Nat} (h : Small p n) (r : Bool) : -(16 + 2 * (n : Int)) ≤ topX p r ∧ topX p r ≤ 16 + 2 * (n : Int) := by
 refine h.near r (posK r (fromP p r) (stpL (sideP p r))) ?_
 unfold outP
 exact List.mem_of_getElem? (outK_last r _ _)
theorem Small.turn {p : Pan} (h : Small p 16) : (trnP p).2.1 ≤ 128 := by
 have h1 := h.top false
 have h2 := h.top true
 have := trn_wid h.ok
 omega
theorem map_len_le {f : Bar → Bar} {a b : List Bar} (ha : a.Nodup) (hf : ∀ x y, f x = f y → x = y) (h : ∀ x ∈ a, f x ∈ b) : a.length ≤ b.length := by
 have := length_le_of_sub (l := a.map f) (D := b) (nodup_map ha fun x _ y _ e => hf x y e) (fun x hx => by
  obtain ⟨c, hc, rfl⟩ := List.mem_map.1 hx
  exact h c hc)
 simpa using this
theorem mir_len {p : Pan} (h : panE p = 0) : (netL (mirP p)).length = (netL p).length := by
 refine Nat.le_antisymm ?_ ?_
 ·refine map_len_le (f := fun b => (2 * p.2.1 - b.1, b.2.1, -b.2.2)) (sortedB_nodup (netN_asc _ _)) (fun x y e => ?_) fun b hb => mir_bar (mir_err h) hb
  obtain ⟨a, b, c⟩ := x
  obtain ⟨a', b', c'⟩ := y
  simp only [Prod.mk.injEq] at e ⊢
  exact ⟨by omega, e.2.1, by omega⟩
 ·refine map_len_le (f := fun b => (2 * p.2.1 - b.1, b.2.1, -b.2.2)) (sortedB_nodup (netN_asc _ _)) (fun x y e => ?_) fun b hb => mir_bar h hb
  obtain ⟨a, b, c⟩ := x
  obtain ⟨a', b', c'⟩ := y
  simp only [Prod.mk.injEq] at e ⊢
  exact ⟨by omega, e.2.1, by omega⟩
theorem trn_len_le {p : Pan} (h : panE p = 0) (hw : (trnP p).2.1 ≤ 128) : (netL p).length ≤ (netL (trnP p)).length := by
 refine map_len_le (f := fun b => (topX p true - (b.1 + b.2.2), heightP p - (b.2.1 + 1), b.2.2)) (sortedB_nodup (netN_asc _ _)) (fun x y e => ?_) fun b hb => trn_bar h hw hb
 obtain ⟨a, b, c⟩ := x
 obtain ⟨a', b', c'⟩ := y
 simp only [Prod.mk.injEq] at e ⊢
 exact ⟨by omega, by omega, e.2.2⟩
theorem trn_len {p : Pan} (h : panE p = 0) (hw : (trnP p).2.1 ≤ 128) : (netL (trnP p)).length = (netL p).length := by
 have ok := panE_zero h
 refine Nat.le_antisymm ?_ (trn_len_le h hw)
 have := trn_len_le (trn_err h hw) (by rw [trn_trn ok]; exact ok.wid.2)
 rwa [trn_trn ok] at this
theorem Small.motions {p : Pan} (hs : Small p 16) (h : panE p = 0) : netE (netL p) = 0 ∧ netE (netL (mirP p)) = 0 ∧ netE (netL (trnP p)) = 0 ∧ (mirN (netL p)).map (shB (2 * p.2.1, 0)) = netL (mirP p) ∧ (turnN 2 (netL p)).map (shB (topX p true, heightP p)) = netL (trnP p) := by
 have hl := hs.few
 have e1 := netL_netE hs.ok hl
 have e2 := netL_netE (panE_zero (mir_err h)) (by rw [mir_len h]; exact hl)
 have e3 := netL_netE (panE_zero (trn_err h hs.turn)) (by rw [trn_len h hs.turn]; exact hl)
 exact ⟨e1, e2, e3, mir_net h e1 e2, trn_net h hs.turn e1 e3⟩
theorem hits_pre {row X : Int} : ∀ {a : List Knot} (b : List Knot) {y : Int}, hits row y a X → hits row y (a ++ b) X
 | [], _, _, h => h.elim
 | k :: r, b, y, h => by
  rcases h with h | h
  ·exact .inl h
  ·exact .inr (hits_pre b h)
theorem out_app (r : Bool) : ∀ (a b : List Stp) (k : Knot), ∃ t, outK r k (a ++ b) = outK r k a ++ t
 | [], b, k => by
  obtain ⟨t, ht⟩ := outK_cons r k b
  exact ⟨t, ht⟩
 | s :: a, b, k => by
  obtain ⟨t, ht⟩ := out_app r a b (stepK r k s)
  exact ⟨t, by rw [List.cons_append, outK, outK, ht]; rfl⟩
theorem hits_suf (r : Bool) {row X : Int} : ∀ (a b : List Stp) (k : Knot), hits row (posK r k a).2 (outK r (posK r k a) b) X → hits row k.2 (outK r k (a ++ b)) X
 | [], b, k, h => h
 | s :: a, b, k, h => by
  have ih := hits_suf r a b (stepK r k s) h
  obtain ⟨t, ht⟩ := outK_cons r (stepK r k s) (a ++ b)
  rw [List.cons_append, outK, ht]
  rw [ht] at ih
  exact .inr (hits_back ih)
theorem hits_shift {row X dx dy : Int} : ∀ {l : List Knot} {y : Int}, hits row y l X → hits (row + dy) (y + dy) (l.map fun k => (k.1 + dx, k.2 + dy)) (X + dx)
 | [], _, h => h.elim
 | k :: r, y, h => by
  rcases h with ⟨h1, h2⟩ | h
  ·refine .inl ⟨?_, by simp only; omega⟩
   unfold hitR at h1 ⊢
   rw [decide_eq_true_eq] at h1 ⊢
   simp only
   omega
  ·exact .inr (hits_shift (y := k.2) h)
theorem out_shift (r : Bool) (dx dy : Int) : ∀ (l : List Stp) (k : Knot), outK r (k.1 + dx, k.2 + dy) l = (outK r k l).map fun k => (k.1 + dx, k.2 + dy)
 | [], _ => rfl
 | s :: t, k => by rw [outK, outK, List.map_cons, step_shift, out_shift r dx dy t (stepK r k s)]
structure CutAt (p : Pan) (y : Int) (i k : Nat) : Prop where
 ok : panE p = 0
 sm : Small p 16
 lo : 1 ≤ y
 hi : y ≤ heightP p - 1
 i_ : splitI (outP p false) y = i
 k_ : splitI (outP p true) y = k
theorem CutAt.pos {p : Pan} {y : Int} {i k : Nat} (h : CutAt p y i k) (r : Bool) : posK r (fromP p r) ((stpL (sideP p r)).take (cutN i k r)) = (if r then cutX p i + cutD p i k else cutX p i, y) := by
 obtain ⟨i1, i2⟩ := splitI_hit h.i_
 obtain ⟨k1, k2⟩ := splitI_hit h.k_
 cases r
 ·have g : (outP p false)[i] = posK false (fromP p false) ((stpL (sideP p false)).take i) := outK_get false _ _ i i1
  have e : cutX p i = (outP p false)[i].1 := by unfold cutX; rw [List.getD_eq_getElem?_getD, List.getElem?_eq_getElem i1, Option.getD_some]
  show posK false (fromP p false) ((stpL (sideP p false)).take i) = (cutX p i, y)
  rw [← g, e, ← i2]
 ·have g : (outP p true)[k] = posK true (fromP p true) ((stpL (sideP p true)).take k) := outK_get true _ _ k k1
  have e : cutX p i + cutD p i k = (outP p true)[k].1 := by
   unfold cutD cutX
   rw [List.getD_eq_getElem?_getD (l := outP p true), List.getElem?_eq_getElem k1, Option.getD_some]
   omega
  show posK true (fromP p true) ((stpL (sideP p true)).take k) = (cutX p i + cutD p i k, y)
  rw [← g, e, ← k2]
theorem CutAt.hitA {p : Pan} {i k : Nat} (r : Bool) {row X : Int} (hh : hits row 0 (outP (cutA p i k) r) X) : hits row 0 (outP p r) X := by
 have e1 : outP (cutA p i k) r = outK r (fromP p r) ((stpL (sideP p r)).take (cutN i k r)) := by
  unfold outP
  rw [SameL.out (cutA_side p i k r)]
  cases r <;> rfl
 obtain ⟨t, ht⟩ := out_app r ((stpL (sideP p r)).take (cutN i k r)) ((stpL (sideP p r)).drop (cutN i k r)) (fromP p r)
 rw [List.take_append_drop] at ht
 have e2 : outP p r = outP (cutA p i k) r ++ t := by rw [e1]; exact ht
 rw [e2]
 exact hits_pre t hh
theorem CutAt.wid {p : Pan} {y : Int} {i k : Nat} (h : CutAt p y i k) : 2 * (cutB p i k).2.1 = cutD p i k := by
 have h1 := pos_par false ((stpL (sideP p false)).take (cutN i k false)) (fromP p false)
 have h2 := pos_par true ((stpL (sideP p true)).take (cutN i k true)) (fromP p true)
 rw [h.pos false] at h1
 rw [h.pos true] at h2
 have h1 : (cutX p i + y - (0 + 0)) % 2 = 0 := h1
 have h2 : (cutX p i + cutD p i k + y - (2 * p.2.1 + 0)) % 2 = 0 := h2
 show 2 * (cutD p i k).tdiv 2 = _
 obtain ⟨m, hm⟩ : ∃ m, cutD p i k = 2 * m := ⟨cutD p i k / 2, by omega⟩
 rw [hm, Int.mul_tdiv_cancel_left m (by decide)]
theorem CutAt.hitB {p : Pan} {y : Int} {i k : Nat} (h : CutAt p y i k) (r : Bool) {row X : Int} (hh : hits row 0 (outP (cutB p i k) r) X) : hits (row + y) 0 (outP p r) (X + cutX p i) := by
 have e1 : outP (cutB p i k) r = outK r (fromP (cutB p i k) r) ((stpL (sideP p r)).drop (cutN i k r)) := by
  unfold outP
  rw [SameL.out (cutB_side p i k r)]
 have hf : posK r (fromP p r) ((stpL (sideP p r)).take (cutN i k r)) = ((fromP (cutB p i k) r).1 + cutX p i, (fromP (cutB p i k) r).2 + y) := by
  rw [h.pos r]
  have hw := h.wid
  cases r
  ·show (cutX p i, y) = (0 + cutX p i, 0 + y)
   refine Prod.ext ?_ ?_ <;> simp only <;> omega
  ·show (cutX p i + cutD p i k, y) = (2 * (cutB p i k).2.1 + cutX p i, 0 + y)
   refine Prod.ext ?_ ?_ <;> simp only <;> omega
 have h2 := hits_shift (dx := cutX p i) (dy := y) hh
 rw [e1, ← out_shift, ← hf] at h2
 have h3 := hits_suf r (row := row + y) (X := X + cutX p i) ((stpL (sideP p r)).take (cutN i k r)) ((stpL (sideP p r)).drop (cutN i k r)) (fromP p r)
 have e4 : (posK r (fromP p r) ((stpL (sideP p r)).take (cutN i k r))).2 = 0 + y := by rw [h.pos r]; show y = 0 + y; omega
 rw [e4, List.take_append_drop] at h3
 have h4 := h3 h2
 have e5 : (fromP p r).2 = 0 := fromP_y p r
 rw [e5] at h4
 exact h4
theorem free_of {q p : Pan} (hp : PanOk p) {d dx : Int} (hd : 0 ≤ d) (hh : ∀ r row X, hits row 0 (outP q r) X → hits (row + d) 0 (outP p r) (X + dx)) (hx : -10000 ≤ dx ∧ dx ≤ 10000) (y : Nat) (hy : (y : Int) + d ≤ heightP p) : (rchI (outP q false) (y : Nat)).2 + 2 ≤ (rchI (outP q true) (y : Nat)).1 := by
 obtain ⟨z, hz⟩ : ∃ z : Nat, (y : Int) + d = z := ⟨((y : Int) + d).toNat, by omega⟩
 have hf := free_at hp z (by omega)
 have n1 := out_near p false hp.wid (hp.side false).1
 have n2 := out_near p true hp.wid (hp.side true).1
 obtain ⟨s1, e1⟩ := outK_cons false (fromP q false) (stpL (sideP q false))
 obtain ⟨s2, e2⟩ := outK_cons true (fromP q true) (stpL (sideP q true))
 obtain ⟨s3, e3⟩ := outK_cons false (fromP p false) (stpL (sideP p false))
 obtain ⟨s4, e4⟩ := outK_cons true (fromP p true) (stpL (sideP p true))
 have e1 : outP q false = fromP q false :: s1 := e1
 have e2 : outP q true = fromP q true :: s2 := e2
 have e3 : outP p false = fromP p false :: s3 := e3
 have e4 : outP p true = fromP p true :: s4 := e4
 have a : (rchI (outP q false) (y : Nat)).2 = -999999999 ∨ hits (y : Int) 0 (outP q false) (rchI (outP q false) (y : Nat)).2 := by
  rw [e1]
  have := (rchGo_of (y : Nat) (fromP q false :: s1) 0 noneR).2
  exact this
 have b : (rchI (outP q true) (y : Nat)).1 = 999999999 ∨ hits (y : Int) 0 (outP q true) (rchI (outP q true) (y : Nat)).1 := by
  rw [e2]
  have := (rchGo_of (y : Nat) (fromP q true :: s2) 0 noneR).1
  exact this
 obtain ⟨A, hA⟩ : ∃ A, (rchI (outP q false) (y : Nat)).2 = A := ⟨_, rfl⟩
 obtain ⟨B, hB⟩ : ∃ B, (rchI (outP q true) (y : Nat)).1 = B := ⟨_, rfl⟩
 rw [hA] at a ⊢
 rw [hB] at b ⊢
 have qa : A = -999999999 ∨ (-200000 ≤ A ∧ A ≤ 200000) ∧ A + dx ≤ (rchI (outP p false) (z : Nat)).2 := a.imp id fun h => by
  have h := hh false _ _ h
  rw [hz] at h
  obtain ⟨k, hk, e⟩ := hits_mem h
  have := n1 k hk
  rw [e3] at h ⊢
  have := (rchI_hit (k := fromP p false) (r := s3) h).2
  omega
 have qb : B = 999999999 ∨ (-200000 ≤ B ∧ B ≤ 200000) ∧ B + dx ≥ (rchI (outP p true) (z : Nat)).1 := b.imp id fun h => by
  have h := hh true _ _ h
  rw [hz] at h
  obtain ⟨k, hk, e⟩ := hits_mem h
  have := n2 k hk
  rw [e4] at h ⊢
  have := (rchI_hit (k := fromP p true) (r := s4) h).1
  omega
 omega
theorem err_of {q : Pan} {H : Int} (hn : nameR q.1 = true) (hw : 1 ≤ q.2.1 ∧ q.2.1 ≤ 128) (hL : SideOk q.2.2.1) (hR : SideOk q.2.2.2) (h1 : riseL (stpL q.2.2.1) = H) (h2 : riseL (stpL q.2.2.2) = H) (hH : 1 ≤ H ∧ H ≤ 256)
  (hf : ∀ y : Nat, (y : Int) ≤ H → (rchI (outP q false) (y : Nat)).2 + 2 ≤ (rchI (outP q true) (y : Nat)).1) : panE q = 0 := by
 have hh : heightP q = H := h1
 have h0' : panE0 q = 0 := by
  show firstI [whenI (!nameR q.1) 8, withinI q.2.1 1 128, sideE q.2.2.1, sideE q.2.2.2] = 0
  rw [hn, sideE_put hL, sideE_put hR]
  unfold withinI whenI
  rw [decide_eq_false (by omega), decide_eq_false (by omega)]
  rfl
 have h1' : panE1 q = 0 := by
  unfold panE1
  rw [hh, h2]
  unfold whenI
  rw [decide_eq_false (by omega), decide_eq_false (by omega), decide_eq_false (by omega)]
  rfl
 have hc : crossB (outP q false) (outP q true) ((heightP q).toNat + 1) = false := by
  rw [hh]
  unfold crossB
  rw [List.any_eq_false]
  intro y hy
  have := hf y (by have := List.mem_range.1 hy; omega)
  simp only [decide_eq_true_eq]
  omega
 unfold panE
 rw [if_neg (by simp [h0']), if_neg (by simp [h1']), hc]
 rfl
theorem CutAt.rise {p : Pan} {y : Int} {i k : Nat} (h : CutAt p y i k) (r : Bool) : riseL (stpL (sideP (cutA p i k) r)) = y ∧ riseL (stpL (sideP (cutB p i k) r)) = heightP p - y := by
 have ok := panE_zero h.ok
 have h1 := end_y r ((stpL (sideP p r)).take (cutN i k r)) (fromP p r)
 rw [h.pos r, fromP_y] at h1
 have h1 : y = 0 + riseL ((stpL (sideP p r)).take (cutN i k r)) := h1
 have h2 : riseL (stpL (sideP p r)) = heightP p := by
  cases r
  ·rfl
  ·exact ok.same
 have h3 : riseL ((stpL (sideP p r)).take (cutN i k r)) + riseL ((stpL (sideP p r)).drop (cutN i k r)) = heightP p := by rw [← riseL_app, List.take_append_drop, h2]
 rw [SameL.rise (cutA_side p i k r), SameL.rise (cutB_side p i k r)]
 omega
theorem CutAt.sides {p : Pan} {y : Int} {i k : Nat} (h : CutAt p y i k) : (SideOk (cutA p i k).2.2.1 ∧ SideOk (cutA p i k).2.2.2) ∧ SideOk (cutB p i k).2.2.1 ∧ SideOk (cutB p i k).2.2.2 := by
 have ok := panE_zero h.ok
 have tl := ok.left.ltrs
 have tr := ok.right.ltrs
 have l1 : (stpL p.2.2.1).length ≤ 16 := h.sm.let_ false
 have l2 : (stpL p.2.2.2).length ≤ 16 := h.sm.let_ true
 refine ⟨⟨pln_side (by rw [List.length_take]; omega) fun x hx => tl x (List.mem_of_mem_take hx), pln_side (by rw [List.length_take]; omega) fun x hx => tr x (List.mem_of_mem_take hx)⟩, pln_side (by rw [List.length_drop]; omega) fun x hx => tl x (List.mem_of_mem_drop hx), pln_side (by rw [List.length_drop]; omega) fun x hx => tr x (List.mem_of_mem_drop hx)⟩
theorem CutAt.cut {p : Pan} {y : Int} {i k : Nat} (h : CutAt p y i k) : panE (cutA p i k) = 0 ∧ panE (cutB p i k) = 0 ∧ CutOk p y i k := by
 have ok := panE_zero h.ok
 obtain ⟨⟨sA1, sA2⟩, sB1, sB2⟩ := h.sides
 have hh := ok.high
 have hlo := h.lo
 have hhi := h.hi
 obtain ⟨i1, i2⟩ := splitI_hit h.i_
 obtain ⟨k1, k2⟩ := splitI_hit h.k_
 have e1 : cutX p i = (outP p false)[i].1 := by unfold cutX; rw [List.getD_eq_getElem?_getD, List.getElem?_eq_getElem i1, Option.getD_some]
 have e2 : cutX p i + cutD p i k = (outP p true)[k].1 := by
  unfold cutD cutX
  rw [List.getD_eq_getElem?_getD (l := outP p true), List.getElem?_eq_getElem k1, Option.getD_some]
  omega
 have x1 := h.sm.near false _ (List.getElem_mem i1)
 have x2 := h.sm.near true _ (List.getElem_mem k1)
 have hA : panE (cutA p i k) = 0 := err_of ok.name ok.wid sA1 sA2 (h.rise false).1 (h.rise true).1 (by omega) fun z hz =>
  free_of (q := cutA p i k) (d := 0) (dx := 0) ok (Int.le_refl _) (fun r row X hq => by rw [Int.add_zero, Int.add_zero]; exact CutAt.hitA r hq) (by omega) z (by omega)
 have hz0 := free_of (q := cutB p i k) (d := y) (dx := cutX p i) ok (by omega) (fun r row X hq => h.hitB r hq) (by omega) 0 (by omega)
 have hw := h.wid
 have q1 : (rchI (outP (cutB p i k) false) ((0 : Nat) : Int)).2 ≥ 0 := by
  obtain ⟨s1, e1⟩ := outK_cons false (fromP (cutB p i k) false) (stpL (sideP (cutB p i k) false))
  have e1 : outP (cutB p i k) false = fromP (cutB p i k) false :: s1 := e1
  rw [e1]
  exact (rchI_hit (k := fromP (cutB p i k) false) (r := s1) (X := 0) (.inl ⟨hitR_own rfl, rfl⟩)).2
 have q2 : (rchI (outP (cutB p i k) true) ((0 : Nat) : Int)).1 ≤ 2 * (cutB p i k).2.1 := by
  obtain ⟨s1, e1⟩ := outK_cons true (fromP (cutB p i k) true) (stpL (sideP (cutB p i k) true))
  have e1 : outP (cutB p i k) true = fromP (cutB p i k) true :: s1 := e1
  rw [e1]
  exact (rchI_hit (k := fromP (cutB p i k) true) (r := s1) (X := 2 * (cutB p i k).2.1) (.inl ⟨hitR_own rfl, rfl⟩)).1
 have hB : panE (cutB p i k) = 0 := err_of ok.name (by omega) sB1 sB2 (h.rise false).2 (h.rise true).2 (by omega) fun z hz =>
  free_of (q := cutB p i k) (d := y) (dx := cutX p i) ok (by omega) (fun r row X hq => h.hitB r hq) (by omega) z (by omega)
 exact ⟨hA, hB, ⟨ok, panE_zero hA, panE_zero hB, h.i_, h.k_⟩⟩
end Go.Proofs.YtkkefahobjlagaaGreatDoor
namespace Go.Proofs.YtkkefahobjlagaaGreatDoor
open Go.RowKit Go.ChangeMaps
set_option maxHeartbeats 4000000
set_option maxRecDepth 100000
attribute [local go_sem] Oper.semAt_some
theorem eqneK_any {v u : Value} (l r : List Knot) (w : World) (h : SlK w v l) (h' : SlK w u r) : Calls Tryz.prog 82 #[v, u] w (RV w (.bool (decide (l = r)))) := by
 obtain ⟨A, c, rfl, hlc, hcm, h⟩ := h
 obtain ⟨A', c', rfl, hlc', hcm', h'⟩ := h'
 have hl : l.length ≤ maxLen := Nat.le_trans hlc hcm
 have hl' : r.length ≤ maxLen := Nat.le_trans hlc' hcm'
 unfold maxLen at hl hl'
 by_cases hlen : l.length = r.length
 ·have he2 : ((l.length : Int) != (r.length : Int)) = false := by simp [hlen]
  go_enter Tryz.func82, Tryz.ntmps82
  go_wp2
  go_loopw [13, 5] (fun i j wr => ∃ k : Nat, k ≤ l.length ∧ i = .int .i64 k ∧ Hid (decide (l = r) = decide (l.drop k = r.drop k)) ∧ Below w.heap.size w wr) (fun i _ _ => l.length - (intOf i).toNat)
  case atStart => exact ⟨0, Nat.zero_le _, rfl, by simp [Hid], by (repeat first|exact J0|assumption|(apply J1;assumption)|apply J2|apply J3|apply J4)⟩
  case round =>
   obtain ⟨k, hk, rfl, H, hbw⟩ := hrel
   by_cases hlt : k < l.length
   ·have hr := h.below hbw
    have hr' := h'.below hbw
    obtain ⟨b, off, rfl, hb, e0, e1⟩ := hr.knot hlt
    obtain ⟨b', off', rfl, hb', e0', e1'⟩ := hr'.knot (hlen ▸ hlt)
    have HD := Lib.hid (same_drop hlen hlt)
    have hlt' : k < r.length := hlen ▸ hlt
    obtain ⟨g, hg⟩ : ∃ g, beqK l[k].1 l[k].2 r[k].1 r[k].2 = g := ⟨_, rfl⟩
    have hg' : decide (l[k] = r[k]) = g := hg
    cases g
    ·go_wp2
     refine wp_region_ords [0, 1, 2, 3, 4, 5, 6, 7, 8] [] [] (by kernel_rfl) (by kernel_rfl) (fun d _ _ _ _ h => by cases d <;> exact h) ?_
     simp only [List.map_cons, List.map_nil, List.getD_cons_zero, List.getD_cons_succ]
     repeat (go_big_quiet_step (fail))
     refine wpQuiet_nil ?_
     refine wpMid_nil ?_
     go_wp2
     go_ret
     exact ⟨ret_bool (by rw [H.out, HD.out, hg']; rfl), by (repeat first|exact J0|assumption|(apply J1;assumption)|apply J2|apply J3|apply J4)⟩
    ·go_wp2
     refine wp_region_ords [0, 1, 2, 3, 4, 5, 6, 7, 8] [] [] (by kernel_rfl) (by kernel_rfl) (fun d _ _ _ _ h => by cases d <;> exact h) ?_
     simp only [List.map_cons, List.map_nil, List.getD_cons_zero, List.getD_cons_succ]
     repeat (go_big_quiet_step (fail))
     refine wpQuiet_nil ?_
     refine wpMid_nil ?_
     go_wp2
     go_roundw
     case rel => exact ⟨k + 1, by omega, by go_num, by rw [H.out, HD.out, hg']; rfl, by (repeat first|exact J0|assumption|(apply J1;assumption)|apply J2|apply J3|apply J4)⟩
     case measure => simp [intOf]; omega
   ·have hkl : k = l.length := by omega
    go_wp2
    go_ret
    refine ⟨ret_bool ?_, by (repeat first|exact J0|assumption|(apply J1;assumption)|apply J2|apply J3|apply J4)⟩
    rw [H.out, hkl, List.drop_length, hlen, List.drop_length]; rfl
 ·have he2 : ((l.length : Int) != (r.length : Int)) = true := by simp; omega
  have hd : Hid (decide (l = r) = false) := by simp [Hid]; rintro rfl; exact hlen rfl
  go_enter Tryz.func82, Tryz.ntmps82
  go_wp2
  go_ret
  exact ⟨ret_bool hd.out.symm, by (repeat first|exact J0|assumption|(apply J1;assumption)|apply J2|apply J3|apply J4)⟩
def samQ (p o : Pan) : Bool := decide (outP p false = outP o false) && decide (outP p true = outP o true)
theorem apiSame_any {vL vR uL uR : Value} (p o : Pan) (w : World) (hna : p.1.length ≤ 1000000) (hnb : o.1.length ≤ 1000000) (hL : SlE w vL p.2.2.1) (hR : SlE w vR p.2.2.2) (kL : SlE w uL o.2.2.1) (kR : SlE w uR o.2.2.2) :
  Calls Tryz.prog 20 #[.agg #[sV p.1, .int .i64 p.2.1, vL, vR], .agg #[sV o.1, .int .i64 o.2.1, uL, uR]] w (RV w (.tuple #[.bool (decide (twoP p o = 0) && samQ p o), .int .i64 (twoP p o)])) := by
 have hc := fun W (hb : Below w.heap.size w W) => checkPanel_any p W hna (hL.below hb) (hR.below hb)
 have hd := fun W (hb : Below w.heap.size w W) => checkPanel_any o W hnb (kL.below hb) (kR.below hb)
 have hf2 : ∀ A c' W, Rd ic 1 W A [panE p, panE o] → Calls Tryz.prog 72 #[.slice A 2 c'] W (RV W (.int .i64 (twoP p o))) := fun A c' W hr => pfirst_any [panE p, panE o] A c' W (by simp [maxLen]) hr
 by_cases hE : twoP p o = 0
 ·obtain ⟨hz1, hz2⟩ := twoP_zero hE
  have hok := panE_zero hz1
  have hoq := panE_zero hz2
  have oa := fun W (hb : Below w.heap.size w W) => outline_any p false W (hL.below hb) (hR.below hb) ⟨by have := hok.wid.1; omega, by have := hok.wid.2; omega⟩ (hok.side false)
  have ob := fun W (hb : Below w.heap.size w W) => outline_any o false W (kL.below hb) (kR.below hb) ⟨by have := hoq.wid.1; omega, by have := hoq.wid.2; omega⟩ (hoq.side false)
  have oc := fun W (hb : Below w.heap.size w W) => outline_any p true W (hL.below hb) (hR.below hb) ⟨by have := hok.wid.1; omega, by have := hok.wid.2; omega⟩ (hok.side true)
  have od := fun W (hb : Below w.heap.size w W) => outline_any o true W (kL.below hb) (kR.below hb) ⟨by have := hoq.wid.1; omega, by have := hoq.wid.2; omega⟩ (hoq.side true)
  have HS : Hid (samQ p o = (decide (outP p false = outP o false) && decide (outP p true = outP o true))) := rfl
  have eq1 := fun a b W h1 h2 => eqneK_any (v := a) (u := b) (outP p false) (outP o false) W h1 h2
  have eq2 := fun a b W h1 h2 => eqneK_any (v := a) (u := b) (outP p true) (outP o true) W h1 h2
  obtain ⟨n1, hn1⟩ : ∃ b, decide (outP p false = outP o false) = b := ⟨_, rfl⟩
  obtain ⟨n2, hn2⟩ : ∃ b, decide (outP p true = outP o true) = b := ⟨_, rfl⟩
  rw [hn1] at eq1 HS
  rw [hn2] at eq2 HS
  have HB : Hid ((decide (twoP p o = 0) && samQ p o) = samQ p o) := by unfold Hid; rw [hE]; simp
  rw [HB.out]
  rw [hE] at hf2 ⊢
  obtain ⟨E1, hE1⟩ : ∃ E, panE p = E := ⟨_, rfl⟩
  rw [hE1] at hc hf2
  obtain ⟨E2, hE2⟩ : ∃ E, panE o = E := ⟨_, rfl⟩
  rw [hE2] at hd hf2
  obtain ⟨AL, cL, rfl, _, _, _⟩ := hL
  obtain ⟨AR, cR, rfl, _, _, _⟩ := hR
  obtain ⟨BL, dL, rfl, _, _, _⟩ := kL
  obtain ⟨BR, dR, rfl, _, _, _⟩ := kR
  simp only [sV] at oa ob oc od hc hd ⊢
  have hP := (Blk.new w 30 #[.string ⟨p.1.toArray⟩, .int .i64 p.2.1, .slice AL p.2.2.1.length cL, .slice AR p.2.2.2.length cR]).alloc (.cells #[.string ⟨o.1.toArray⟩, .int .i64 o.2.1, .slice BL o.2.2.1.length dL, .slice BR o.2.2.2.length dR] 30)
  have hQ := Blk.new1 w (.cells #[.string ⟨p.1.toArray⟩, .int .i64 p.2.1, .slice AL p.2.2.1.length cL, .slice AR p.2.2.2.length cR] 30) 30 #[.string ⟨o.1.toArray⟩, .int .i64 o.2.1, .slice BL o.2.2.1.length dL, .slice BR o.2.2.2.length dR]
  clear hn1 hn2 hok hoq hE hE1 hE2 hz1 hz2 HB hna hnb
  go_enter Tryz.func20, Tryz.ntmps20
  go_upto_region 1 with fail
  obtain ⟨w0, hw0⟩ : ∃ X, (w.alloc (.cells #[.string ⟨p.1.toArray⟩, .int .i64 p.2.1, .slice AL p.2.2.1.length cL, .slice AR p.2.2.2.length cR] 30)).alloc (.cells #[.string ⟨o.1.toArray⟩, .int .i64 o.2.1, .slice BL o.2.2.1.length dL, .slice BR o.2.2.2.length dR] 30) = X := ⟨_, rfl⟩
  have hbw0 : Below w.heap.size w w0 := by rw [← hw0]; exact bl_alloc (bl_alloc bl_refl _) _
  rw [hw0] at hP hQ ⊢
  clear hw0
  have fhP := hP.facts
  have fhQ := hQ.facts
  refine wp_region_ords [0, 2] [(1, false)] [3, 4, 5, 6] (by kernel_rfl) (by kernel_rfl) (fun d _ _ _ _ h => by cases d <;> exact h) ?_
  simp only [List.map_cons, List.map_nil, List.getD_cons_zero, List.getD_cons_succ]
  repeat (go_big_quiet_step (fail))
  refine wpQuiet_nil ?_
  refine wpMid_run rfl (fun K hK => ?_)
  go_simp
  refine (hc _ (by (repeat first|exact J0|assumption|(apply J1;assumption)|apply J2|apply J3|apply J4))).mono ?_
  rintro e w2 ⟨rfl, hb2⟩
  refine hK _ _ (by (repeat first|exact J0|assumption|(apply J1;assumption)|apply J2|apply J3|apply J4)) ?_
  clear hK K
  have hP_w2 := hP.below (show Below _ _ w2 by (repeat first|exact J0|assumption|(apply J1;assumption)|apply J2|apply J3|apply J4))
  have fhP_w2 := hP_w2.facts
  have hQ_w2 := hQ.below (show Below _ _ w2 by (repeat first|exact J0|assumption|(apply J1;assumption)|apply J2|apply J3|apply J4))
  have fhQ_w2 := hQ_w2.facts
  refine wpMid_nil ?_
  go_wp2_with (go_at_call 61; refine (hd _ (by (repeat first|exact J0|assumption|(apply J1;assumption)|apply J2|apply J3|apply J4))).mono ?_; rintro e w3 ⟨rfl, hb3⟩)
  go_must (refine (hf2 _ _ _ (Rd.ints2 (by simp) (by go_simp) (by go_simp))).mono ?_)
  rintro e w1 ⟨rfl, hb4⟩
  have hb14 : Below w0.heap.size w0 w1 := by (repeat first|exact J0|assumption|(apply J1;assumption)|apply J2|apply J3|apply J4)
  replace hP := hP.below hb14
  replace hQ := hQ.below hb14
  have hbw1 : Below w.heap.size w w1 := bl_then hb14 hbw0
  replace fhP := hP.facts
  replace fhQ := hQ.facts
  clear hc hd hf2 hb14 hb2 hb3 hb4 hbw0 hP_w2 hQ_w2 fhP_w2 fhQ_w2
  go_upto_region 4 with fail
  cases n1
  ·have HF : Hid (samQ p o = false) := by unfold Hid; rw [HS.out]; rfl
   clear HS
   refine wp_region_ords [0, 2] [(1, false), (3, false), (4, false), (5, false), (6, true), (8, true), (7, false)] [9, 10, 11, 12, 13] (by kernel_rfl) (by kernel_rfl) (fun d _ _ _ _ h => by cases d <;> exact h) ?_
   simp only [List.map_cons, List.map_nil, List.getD_cons_zero, List.getD_cons_succ]
   repeat (go_big_quiet_step (fail))
   refine wpQuiet_nil ?_
   refine wpMid_run rfl (fun K hK => ?_)
   go_simp
   refine (oa _ (by (repeat first|exact J0|assumption|(apply J1;assumption)|apply J2|apply J3|apply J4))).mono ?_
   rintro e w2 ⟨v2, rfl, hO2, hb2⟩
   refine hK _ _ (by (repeat first|exact J0|assumption|(apply J1;assumption)|apply J2|apply J3|apply J4)) ?_
   clear hK K
   have hP_w2 := hP.below (show Below _ _ w2 by (repeat first|exact J0|assumption|(apply J1;assumption)|apply J2|apply J3|apply J4))
   have fhP_w2 := hP_w2.facts
   have hQ_w2 := hQ.below (show Below _ _ w2 by (repeat first|exact J0|assumption|(apply J1;assumption)|apply J2|apply J3|apply J4))
   have fhQ_w2 := hQ_w2.facts
   refine wpMid_run rfl (fun K hK => ?_)
   go_simp
   refine (ob _ (by (repeat first|exact J0|assumption|(apply J1;assumption)|apply J2|apply J3|apply J4))).mono ?_
   rintro e w3 ⟨v3, rfl, hO3, hb3⟩
   refine hK _ _ (by (repeat first|exact J0|assumption|(apply J1;assumption)|apply J2|apply J3|apply J4)) ?_
   clear hK K
   have hP_w3 := hP.below (show Below _ _ w3 by (repeat first|exact J0|assumption|(apply J1;assumption)|apply J2|apply J3|apply J4))
   have fhP_w3 := hP_w3.facts
   have hQ_w3 := hQ.below (show Below _ _ w3 by (repeat first|exact J0|assumption|(apply J1;assumption)|apply J2|apply J3|apply J4))
   have fhQ_w3 := hQ_w3.facts
   refine wpMid_run rfl (fun K hK => ?_)
   go_simp
   refine (eq1 _ _ _ ((hO2.rd kc_len).below (by (repeat first|exact J0|assumption|(apply J1;assumption)|apply J2|apply J3|apply J4))) (hO3.rd kc_len)).mono ?_
   rintro e w4 ⟨rfl, hb4⟩
   refine hK _ _ (by (repeat first|exact J0|assumption|(apply J1;assumption)|apply J2|apply J3|apply J4)) ?_
   clear hK K
   have hP_w4 := hP.below (show Below _ _ w4 by (repeat first|exact J0|assumption|(apply J1;assumption)|apply J2|apply J3|apply J4))
   have fhP_w4 := hP_w4.facts
   have hQ_w4 := hQ.below (show Below _ _ w4 by (repeat first|exact J0|assumption|(apply J1;assumption)|apply J2|apply J3|apply J4))
   have fhQ_w4 := hQ_w4.facts
   refine wpMid_run rfl (fun K hK => ?_)
   go_simp
   refine hK _ _ (by (repeat first|exact J0|assumption|(apply J1;assumption)|apply J2|apply J3|apply J4)) ?_
   clear hK K
   refine wpMid_skipT (by kernel_rfl) ?_
   intro K hK
   simp only [Act.put, List.setIfInBounds_toArray, List.set_cons_zero, List.set_cons_succ]
   refine hK _ ?_
   clear hK K
   refine wpMid_skipT (by kernel_rfl) ?_
   intro K hK
   simp only [Act.put, List.setIfInBounds_toArray, List.set_cons_zero, List.set_cons_succ]
   refine hK _ ?_
   clear hK K
   refine wpMid_skipF (by kernel_rfl) ?_
   intro K hK
   simp only [Act.put, List.setIfInBounds_toArray, List.set_cons_zero, List.set_cons_succ]
   refine hK _ ?_
   clear hK K
   refine wpMid_nil ?_
   go_wp2
   go_ret2
   exact ⟨by rw [HF.out]; rfl, bl_then (show Below w1.heap.size w1 w4 by (repeat first|exact J0|assumption|(apply J1;assumption)|apply J2|apply J3|apply J4)) hbw1⟩
  ·have HF : Hid (samQ p o = n2) := by unfold Hid; rw [HS.out]; simp
   clear HS
   refine wp_region_ords [0, 2] [(1, false), (3, false), (4, false), (5, false), (6, true), (8, true), (7, false)] [9, 10, 11, 12, 13] (by kernel_rfl) (by kernel_rfl) (fun d _ _ _ _ h => by cases d <;> exact h) ?_
   simp only [List.map_cons, List.map_nil, List.getD_cons_zero, List.getD_cons_succ]
   repeat (go_big_quiet_step (fail))
   refine wpQuiet_nil ?_
   refine wpMid_run rfl (fun K hK => ?_)
   go_simp
   refine (oa _ (by (repeat first|exact J0|assumption|(apply J1;assumption)|apply J2|apply J3|apply J4))).mono ?_
   rintro e w2 ⟨v2, rfl, hO2, hb2⟩
   refine hK _ _ (by (repeat first|exact J0|assumption|(apply J1;assumption)|apply J2|apply J3|apply J4)) ?_
   clear hK K
   have hP_w2 := hP.below (show Below _ _ w2 by (repeat first|exact J0|assumption|(apply J1;assumption)|apply J2|apply J3|apply J4))
   have fhP_w2 := hP_w2.facts
   have hQ_w2 := hQ.below (show Below _ _ w2 by (repeat first|exact J0|assumption|(apply J1;assumption)|apply J2|apply J3|apply J4))
   have fhQ_w2 := hQ_w2.facts
   refine wpMid_run rfl (fun K hK => ?_)
   go_simp
   refine (ob _ (by (repeat first|exact J0|assumption|(apply J1;assumption)|apply J2|apply J3|apply J4))).mono ?_
   rintro e w3 ⟨v3, rfl, hO3, hb3⟩
   refine hK _ _ (by (repeat first|exact J0|assumption|(apply J1;assumption)|apply J2|apply J3|apply J4)) ?_
   clear hK K
   have hP_w3 := hP.below (show Below _ _ w3 by (repeat first|exact J0|assumption|(apply J1;assumption)|apply J2|apply J3|apply J4))
   have fhP_w3 := hP_w3.facts
   have hQ_w3 := hQ.below (show Below _ _ w3 by (repeat first|exact J0|assumption|(apply J1;assumption)|apply J2|apply J3|apply J4))
   have fhQ_w3 := hQ_w3.facts
   refine wpMid_run rfl (fun K hK => ?_)
   go_simp
   refine (eq1 _ _ _ ((hO2.rd kc_len).below (by (repeat first|exact J0|assumption|(apply J1;assumption)|apply J2|apply J3|apply J4))) (hO3.rd kc_len)).mono ?_
   rintro e w4 ⟨rfl, hb4⟩
   refine hK _ _ (by (repeat first|exact J0|assumption|(apply J1;assumption)|apply J2|apply J3|apply J4)) ?_
   clear hK K
   have hP_w4 := hP.below (show Below _ _ w4 by (repeat first|exact J0|assumption|(apply J1;assumption)|apply J2|apply J3|apply J4))
   have fhP_w4 := hP_w4.facts
   have hQ_w4 := hQ.below (show Below _ _ w4 by (repeat first|exact J0|assumption|(apply J1;assumption)|apply J2|apply J3|apply J4))
   have fhQ_w4 := hQ_w4.facts
   refine wpMid_run rfl (fun K hK => ?_)
   go_simp
   refine hK _ _ (by (repeat first|exact J0|assumption|(apply J1;assumption)|apply J2|apply J3|apply J4)) ?_
   clear hK K
   refine wpMid_take rfl ?_
   intro K hK
   go_big_quiet_op
   go_big_quiet_on
   refine wpMid_take rfl ?_
   intro K hK
   go_big_quiet_op
   go_big_quiet_on
   refine wpMid_run rfl (fun K hK => ?_)
   go_simp
   refine (oc _ (by (repeat first|exact J0|assumption|(apply J1;assumption)|apply J2|apply J3|apply J4))).mono ?_
   rintro e w5 ⟨v5, rfl, hO5, hb5⟩
   refine hK _ _ (by (repeat first|exact J0|assumption|(apply J1;assumption)|apply J2|apply J3|apply J4)) ?_
   clear hK K
   have hP_w5 := hP.below (show Below _ _ w5 by (repeat first|exact J0|assumption|(apply J1;assumption)|apply J2|apply J3|apply J4))
   have fhP_w5 := hP_w5.facts
   have hQ_w5 := hQ.below (show Below _ _ w5 by (repeat first|exact J0|assumption|(apply J1;assumption)|apply J2|apply J3|apply J4))
   have fhQ_w5 := hQ_w5.facts
   refine wpMid_nil ?_
   go_wp2_with fail
   refine (od _ (bl_then (show Below w1.heap.size w1 w5 by (repeat first|exact J0|assumption|(apply J1;assumption)|apply J2|apply J3|apply J4)) hbw1)).mono ?_
   rintro e w6 ⟨v6, rfl, hO6, hb6⟩
   go_wp2_with fail
   refine (eq2 _ _ _ ((hO5.rd kc_len).below (by (repeat first|exact J0|assumption|(apply J1;assumption)|apply J2|apply J3|apply J4))) (hO6.rd kc_len)).mono ?_
   rintro e w7 ⟨rfl, hb7⟩
   go_wp2
   go_ret2
   exact ⟨by rw [HF.out]; rfl, bl_then (show Below w1.heap.size w1 w7 by (repeat first|exact J0|assumption|(apply J1;assumption)|apply J2|apply J3|apply J4)) hbw1⟩
 ·have HB : Hid ((decide (twoP p o = 0) && samQ p o) = false) := by unfold Hid; rw [decide_eq_false hE]; rfl
  rw [HB.out]
  have t0 : (twoP p o != 0) = true := by simp [hE]
  obtain ⟨E, hEE⟩ : ∃ E, twoP p o = E := ⟨_, rfl⟩
  rw [hEE] at hf2 t0 ⊢
  obtain ⟨E1, hE1⟩ : ∃ E, panE p = E := ⟨_, rfl⟩
  rw [hE1] at hc hf2
  obtain ⟨E2, hE2⟩ : ∃ E, panE o = E := ⟨_, rfl⟩
  rw [hE2] at hd hf2
  obtain ⟨AL, cL, rfl, _, _, _⟩ := hL
  obtain ⟨AR, cR, rfl, _, _, _⟩ := hR
  obtain ⟨BL, dL, rfl, _, _, _⟩ := kL
  obtain ⟨BR, dR, rfl, _, _, _⟩ := kR
  simp only [sV] at hc hd ⊢
  have hP := (Blk.new w 30 #[.string ⟨p.1.toArray⟩, .int .i64 p.2.1, .slice AL p.2.2.1.length cL, .slice AR p.2.2.2.length cR]).alloc (.cells #[.string ⟨o.1.toArray⟩, .int .i64 o.2.1, .slice BL o.2.2.1.length dL, .slice BR o.2.2.2.length dR] 30)
  have hQ := Blk.new1 w (.cells #[.string ⟨p.1.toArray⟩, .int .i64 p.2.1, .slice AL p.2.2.1.length cL, .slice AR p.2.2.2.length cR] 30) 30 #[.string ⟨o.1.toArray⟩, .int .i64 o.2.1, .slice BL o.2.2.1.length dL, .slice BR o.2.2.2.length dR]
  clear hE hEE hE1 hE2 HB hna hnb
  go_enter Tryz.func20, Tryz.ntmps20
  go_upto_region 1 with fail
  obtain ⟨w0, hw0⟩ : ∃ X, (w.alloc (.cells #[.string ⟨p.1.toArray⟩, .int .i64 p.2.1, .slice AL p.2.2.1.length cL, .slice AR p.2.2.2.length cR] 30)).alloc (.cells #[.string ⟨o.1.toArray⟩, .int .i64 o.2.1, .slice BL o.2.2.1.length dL, .slice BR o.2.2.2.length dR] 30) = X := ⟨_, rfl⟩
  have hbw0 : Below w.heap.size w w0 := by rw [← hw0]; exact bl_alloc (bl_alloc bl_refl _) _
  rw [hw0] at hP hQ ⊢
  clear hw0
  have fhP := hP.facts
  have fhQ := hQ.facts
  refine wp_region_ords [0, 2] [(1, false)] [3, 4, 5, 6] (by kernel_rfl) (by kernel_rfl) (fun d _ _ _ _ h => by cases d <;> exact h) ?_
  simp only [List.map_cons, List.map_nil, List.getD_cons_zero, List.getD_cons_succ]
  repeat (go_big_quiet_step (fail))
  refine wpQuiet_nil ?_
  refine wpMid_run rfl (fun K hK => ?_)
  go_simp
  refine (hc _ (by (repeat first|exact J0|assumption|(apply J1;assumption)|apply J2|apply J3|apply J4))).mono ?_
  rintro e w2 ⟨rfl, hb2⟩
  refine hK _ _ (by (repeat first|exact J0|assumption|(apply J1;assumption)|apply J2|apply J3|apply J4)) ?_
  clear hK K
  have hP_w2 := hP.below (show Below _ _ w2 by (repeat first|exact J0|assumption|(apply J1;assumption)|apply J2|apply J3|apply J4))
  have fhP_w2 := hP_w2.facts
  have hQ_w2 := hQ.below (show Below _ _ w2 by (repeat first|exact J0|assumption|(apply J1;assumption)|apply J2|apply J3|apply J4))
  have fhQ_w2 := hQ_w2.facts
  refine wpMid_nil ?_
  go_wp2_with (go_at_call 61; refine (hd _ (by (repeat first|exact J0|assumption|(apply J1;assumption)|apply J2|apply J3|apply J4))).mono ?_; rintro e w3 ⟨rfl, hb3⟩)
  go_must (refine (hf2 _ _ _ (Rd.ints2 (by simp) (by go_simp) (by go_simp))).mono ?_)
  rintro e w1 ⟨rfl, hb4⟩
  have hb14 : Below w0.heap.size w0 w1 := by (repeat first|exact J0|assumption|(apply J1;assumption)|apply J2|apply J3|apply J4)
  replace hP := hP.below hb14
  replace hQ := hQ.below hb14
  have hbw1 : Below w.heap.size w w1 := bl_then hb14 hbw0
  replace fhP := hP.facts
  replace fhQ := hQ.facts
  clear hc hd hf2 hb14 hb2 hb3 hb4 hbw0 hP_w2 hQ_w2 fhP_w2 fhQ_w2
  go_wp2
  go_ret2
  exact ⟨rfl, hbw1⟩
end Go.Proofs.YtkkefahobjlagaaGreatDoor
namespace Go.Proofs.YtkkefahobjlagaaGreatDoor
open Go.RowKit Go.ChangeMaps
set_option maxHeartbeats 4000000
set_option maxRecDepth 100000
theorem knotE_put {x y : Int} (h1 : -100000 ≤ x ∧ x ≤ 100000) (h2 : -100000 ≤ y ∧ y ≤ 100000) (hp : (x + y) % 2 = 0) : knotE x y = 0 := by
 have f1 : farB x = false := by unfold farB; simp; omega
 have f2 : farB y = false := by unfold farB; simp; omega
 unfold knotE
 rw [f1, f2, if_neg (by decide), if_pos hp]
theorem cornA_left {p : Pan} (ok : PanOk p) : ∃ a b c d e f : Int, cornA p = #[.int .i64 a, .int .i64 b, .int .i64 c, .int .i64 d, .int .i64 (topX p false), .int .i64 (heightP p), .int .i64 e, .int .i64 f] := by
 have h : posK false (fromP p false) (stpL p.2.2.1) = (topX p false, heightP p) := top_pos ok false
 have h1 : (posK false (fromP p false) (stpL p.2.2.1)).1 = topX p false := by rw [h]
 have h2 : (posK false (fromP p false) (stpL p.2.2.1)).2 = heightP p := by rw [h]
 exact ⟨_, _, _, _, _, _, by unfold cornA; rw [h1, h2]⟩
structure Parts (p : Pan) (y : Int) (i k : Nat) : Prop where
 eA : panE (cutA p i k) = 0
 eB : panE (cutB p i k) = 0
 nP : netErr p = 0
 nA : netErr (cutA p i k) = 0
 nB : netErr (cutB p i k) = 0
 cA : netE (netL (cutA p i k)) = 0
 cB : netE (netL (cutB p i k)) = 0
 tA : topX (cutA p i k) false = cutX p i
 hA : heightP (cutA p i k) = y
 hB : y + heightP (cutB p i k) = heightP p
 sE : shiftE (netL (cutB p i k)) (cutX p i) y = 0
 sL : shiftL (netL (cutB p i k)) (cutX p i) y = (netL (cutB p i k)).map (shB (cutX p i, y))
 uE : putE unionK (netL (cutA p i k)) ((netL (cutB p i k)).map (shB (cutX p i, y))) = 0
 uL : putL unionK (netL (cutA p i k)) ((netL (cutB p i k)).map (shB (cutX p i, y))) = netL p
 len : (netL (cutA p i k)).length + (netL (cutB p i k)).length = (netL p).length
 stE : stkE (cutA p i k) (cutB p i k) = 0
 sE0 : panE (stkQ (cutA p i k) (cutB p i k)) = 0
 two : twoP (stkQ (cutA p i k) (cutB p i k)) p = 0
 same : samQ (stkQ (cutA p i k) (cutB p i k)) p = true
 area : areaS (strips (cutA p i k)) + areaS (strips (cutB p i k)) = areaS (strips p)
 x : -48 ≤ cutX p i ∧ cutX p i ≤ 48
 y_ : 1 ≤ y ∧ y ≤ 32
 few : (netL p).length ≤ 4096
 okA : PanOk (cutA p i k)
 arA : -200000000 ≤ areaS (strips (cutA p i k)) ∧ areaS (strips (cutA p i k)) ≤ 200000000
 arB : -200000000 ≤ areaS (strips (cutB p i k)) ∧ areaS (strips (cutB p i k)) ≤ 200000000
theorem area_in {p : Pan} (ok : PanOk p) : -200000000 ≤ areaS (strips p) ∧ areaS (strips p) ≤ 200000000 := by
 have h := areaS_near (strips_near ok) (strips p).length (Nat.le_refl _)
 have hl := strips_le ok
 rw [List.take_length] at h
 omega
theorem CutAt.parts {p : Pan} {y : Int} {i k : Nat} (h : CutAt p y i k) : Parts p y i k := by
 obtain ⟨eA, eB, c⟩ := h.cut
 have hf := h.sm.few
 obtain ⟨cA, cB, cS, hl⟩ := c.netE hf
 obtain ⟨hx, hy⟩ := Small.cut c h.sm
 have hz := h.ok
 have hev := c.even
 have k1 : knotE (cutX p i) y = 0 := knotE_put ⟨by omega, by omega⟩ ⟨by omega, by omega⟩ hev
 have s := shift_is cB k1 cS rfl
 have hM : mergeL unionK (netL (cutA p i k)) ((netL (cutB p i k)).map (shB (cutX p i, y))) = netL p := (merge_union (netN_asc _ _) (netE_ok cS).sorted).trans c.union
 have hput : putE unionK (netL (cutA p i k)) ((netL (cutB p i k)).map (shB (cutX p i, y))) = 0 := by
  unfold putE twoE
  rw [cA, cS, if_neg (by simp [firstI]), hM, if_neg (by omega)]
 have hte : twoP (cutA p i k) (cutB p i k) = 0 := by unfold twoP; rw [eA, eB]; rfl
 have hst : panE (stkQ (cutA p i k) (cutB p i k)) = 0 := by
  have h1 := h.sm.let_ false
  have h2 := h.sm.let_ true
  exact cut_stack_err c hz (Nat.le_trans h1 (by decide)) (Nat.le_trans h2 (by decide))
 refine ⟨eA, eB, netErr_nil hz hf, netErr_nil eA (by omega), netErr_nil eB (by omega), cA, cB, c.topA, c.highA, ?_, s.1, s.2, hput, ?_, hl, ?_, hst, ?_, ?_, c.area, hx, hy, hf, c.a, area_in c.a, area_in c.b⟩
 ·have := cut_high (p := p) (i := i) (k := k)
  rw [c.highA] at this
  exact this
 ·unfold putL
  rw [if_pos hput, hM]
 ·unfold stkE
  rw [hte, if_neg (by decide), if_neg (by rw [c.top]; simp)]
 ·unfold twoP
  rw [hst, hz]
  rfl
 ·unfold samQ
  rw [cut_stack_out, cut_stack_out]
  simp
theorem cut_ways {p : Pan} (hz : panE p = 0) (hs : Small p 16) {y : Int} (h1 : 1 ≤ y) (h2 : y ≤ max 1 (heightP p - 1)) : (heightP p = 1 ∧ withinI y 1 (heightP p - 1) = 3) ∨ (withinI y 1 (heightP p - 1) = 0 ∧ (splitI (outP p false) y < 0 ∨ splitI (outP p true) y < 0)) ∨ ∃ i k, CutAt p y i k := by
  have hh := hs.ok.high
  by_cases h : heightP p = 1
  · refine .inl ⟨h, ?_⟩
    rw [h]
    unfold withinI whenI
    rw [if_pos (by simp; omega)]
  · have hw : withinI y 1 (heightP p - 1) = 0 := by
      unfold withinI whenI
      rw [if_neg (by simp; omega)]
    by_cases hL : splitI (outP p false) y < 0
    · exact .inr (.inl ⟨hw, .inl hL⟩)
    · by_cases hR : splitI (outP p true) y < 0
      · exact .inr (.inl ⟨hw, .inr hR⟩)
      · exact .inr (.inr ⟨(splitI (outP p false) y).toNat, (splitI (outP p true) y).toNat, ⟨hz, hs, h1, by omega, by omega, by omega⟩⟩)
theorem CutAt.within {p : Pan} {y : Int} {i k : Nat} (h : CutAt p y i k) : withinI y 1 (heightP p - 1) = 0 := by
 have h1 := h.lo
 have h2 := h.hi
 unfold withinI whenI
 rw [if_neg (by simp; omega)]
end Go.Proofs.YtkkefahobjlagaaGreatDoor

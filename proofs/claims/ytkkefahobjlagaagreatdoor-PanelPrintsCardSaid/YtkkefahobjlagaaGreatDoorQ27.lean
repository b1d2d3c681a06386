/- The parts of a net, plain, and rows of rows. Conditions: none. -/
import Derived.Test.YtkkefahobjlagaaGreatDoorQ26
namespace Go.Proofs.YtkkefahobjlagaaGreatDoor
open Go.RowKit Go.ChangeMaps
set_option maxHeartbeats 4000000
set_option maxRecDepth 100000
def tryP (l S P : List Bar) (b : Bar) : List Bar := if (b ∈ S ∨ b ∈ P) ∨ b ∉ l then P else P ++ [b]
def arP (l S : List Bar) (k : Knot) (P : List Bar) : Nat → List Bar
 | 0 => P
 | j + 1 => tryP l S (arP l S k P j) (arB k j)
def enP (l S : List Bar) (b : Bar) (P : List Bar) : Nat → List Bar
 | 0 => P
 | n + 1 => arP l S (endK b n) (enP l S b P n) 4
def colP (l S : List Bar) : Nat → Nat → List Bar → List Bar
 | 0, _, P => P
 | f + 1, i, P => if h : i < P.length then colP l S f (i + 1) (enP l S P[i] P 2) else P
def prtO (l : List Bar) : Nat → List (List Bar)
 | 0 => []
 | k + 1 => match l[k]? with
  | none => prtO l k
  | some b => if b ∈ (prtO l k).flatten then prtO l k else prtO l k ++ [srtB (colP l (prtO l k).flatten (l.length + 1) 0 [b])]
def partsL (l : List Bar) : List (List Bar) := prtO l l.length
structure PartOk (l S P : List Bar) : Prop where
 nodup : P.Nodup
 sub : ∀ b ∈ P, b ∈ l
 apart : ∀ b ∈ P, b ∉ S
theorem len_sub {α : Type} [DecidableEq α] : ∀ {l D : List α}, l.Nodup → (∀ x ∈ l, x ∈ D) → l.length ≤ D.length
 | [], _, _, _ => by simp
 | a :: l, D, hn, hs => by
  rw [List.nodup_cons] at hn
  have ha := hs a (by simp)
  have := len_sub (D := D.erase a) hn.2 fun x hx => (List.mem_erase_of_ne (fun e : x = a => hn.1 (e ▸ hx))).2 (hs x (by simp [hx]))
  rw [List.length_erase_of_mem ha] at this
  have h0 := List.length_pos_of_mem ha
  simp only [List.length_cons]
  omega
theorem PartOk.len {l S P : List Bar} (h : PartOk l S P) : P.length ≤ l.length := len_sub h.nodup h.sub
def seenO (S : List Bar) (b : Bar) : Option Bool := if b ∈ S then some true else none
abbrev SlV := Option Addr × Nat × Nat
def slV (t : SlV) : Value := .slice t.1 t.2.1 t.2.2
def RowsAt (base : Nat) (w : World) : List SlV → List (List Bar) → Prop
 | [], [] => True
 | t :: ts, L :: Ls => OwB base w (slV t) L ∧ RowsAt base w ts Ls
 | _, _ => False
theorem RowsAt.len {base : Nat} {w : World} : ∀ {ts : List SlV} {Ls : List (List Bar)}, RowsAt base w ts Ls → ts.length = Ls.length
 | [], [], _ => rfl
 | _ :: _, _ :: _, h => by simp [RowsAt.len h.2]
 | [], _ :: _, h => h.elim
 | _ :: _, [], h => h.elim
end Go.Proofs.YtkkefahobjlagaaGreatDoor
namespace Go.Proofs.YtkkefahobjlagaaGreatDoor
open Go.RowKit Go.ChangeMaps
set_option maxHeartbeats 4000000
set_option maxRecDepth 100000
attribute [local go_sem] Oper.semAt_some
abbrev PnV := List UInt8 × Int × SlV × SlV
def pnc (x : PnV) : List Value := [sV x.1, .int .i64 x.2.1, slV x.2.2.1, slV x.2.2.2]
theorem pnc_len (x : PnV) : (pnc x).length = 4 := rfl
theorem pnc_one (b : PnV) : ∀ u ∈ pnc b, u.oneCell' = true := by intro u hu; simp [pnc] at hu; rcases hu with rfl | rfl | rfl | rfl <;> rfl
theorem pan_elem : Elem Tryz.prog 82 30 4 72 := ⟨by kernel_rfl, by kernel_rfl, by decide⟩
structure PnAt (w : World) (x : PnV) (p : Pan) : Prop where
 nm : x.1 = p.1
 wd : x.2.1 = p.2.1
 left : SlE w (slV x.2.2.1) p.2.2.1
 right : SlE w (slV x.2.2.2) p.2.2.2
theorem PnAt.below {w w' : World} {x : PnV} {p : Pan} (h : PnAt w x p) (hb : Below w.heap.size w w') : PnAt w' x p := ⟨h.nm, h.wd, h.left.below hb, h.right.below hb⟩
def PnsAt (w : World) : List PnV → List Pan → Prop
 | [], [] => True
 | x :: xs, p :: ps => PnAt w x p ∧ PnsAt w xs ps
 | _, _ => False
theorem PnsAt.len {w : World} : ∀ {xs : List PnV} {l : List Pan}, PnsAt w xs l → xs.length = l.length
 | [], [], _ => rfl
 | _ :: _, _ :: _, h => by simp [h.2.len]
 | [], _ :: _, h => h.elim
 | _ :: _, [], h => h.elim
theorem PnsAt.below {w w' : World} (hb : Below w.heap.size w w') : ∀ {xs : List PnV} {l : List Pan}, PnsAt w xs l → PnsAt w' xs l
 | [], [], _ => trivial
 | _ :: _, _ :: _, h => ⟨h.1.below hb, h.2.below hb⟩
 | [], _ :: _, h => h.elim
 | _ :: _, [], h => h.elim
theorem PnsAt.get {w : World} : ∀ {xs : List PnV} {l : List Pan} {i : Nat} {x : PnV} {p : Pan}, PnsAt w xs l → xs[i]? = some x → l[i]? = some p → PnAt w x p
 | x :: xs, p :: ps, 0, _, _, h, h1, h2 => by
  simp only [List.getElem?_cons_zero, Option.some.injEq] at h1 h2
  subst h1 h2
  exact h.1
 | _ :: xs, _ :: ps, i + 1, _, _, h, h1, h2 => PnsAt.get (i := i) h.2 (by simpa using h1) (by simpa using h2)
 | [], [], _, _, _, _, h1, _ => by simp at h1
 | [], _ :: _, _, _, _, h, _, _ => h.elim
 | _ :: _, [], _, _, _, h, _, _ => h.elim
def SlP (w : World) (v : Value) (l : List Pan) : Prop := ∃ xs, Sl pnc 4 w v xs ∧ PnsAt w xs l
theorem SlP.below {w w' : World} {v : Value} {l : List Pan} (h : SlP w v l) (hb : Below w.heap.size w w') : SlP w' v l := by
 obtain ⟨xs, h1, h2⟩ := h
 exact ⟨xs, h1.below hb, h2.below hb⟩
theorem Rd.pan {w : World} {A : Option Addr} {xs : List PnV} (h : Rd pnc 4 w A xs) {k : Nat} {x : PnV} (hk : xs[k]? = some x) : ∃ b off, A = some ⟨b, off, none⟩ ∧ b < w.heap.size ∧
  w.cell? ⟨b, off + k * 4, none⟩ = some (sV x.1) ∧ w.cell? ⟨b, off + k * 4 + 1, none⟩ = some (.int .i64 x.2.1) ∧ w.cell? ⟨b, off + k * 4 + 2, none⟩ = some (slV x.2.2.1) ∧ w.cell? ⟨b, off + k * 4 + 3, none⟩ = some (slV x.2.2.2) := by
 obtain ⟨b, off, e, hlt, hc⟩ := h k x hk
 exact ⟨b, off, e, hlt, by simpa using hc 0 _ rfl, hc 1 _ rfl, hc 2 _ rfl, hc 3 _ rfl⟩
def agnB (l : List Pan) (nm : List UInt8) : Bool := l.any fun q => q.1 == nm
theorem agn_in {l : List Pan} {nm : List UInt8} {k : Nat} (hk : k < l.length) (h : (l[k].1 == nm) = true) : agnB l nm = true := by
 unfold agnB
 rw [List.any_eq_true]
 exact ⟨_, List.getElem_mem hk, h⟩
theorem agn_at {l : List Pan} {nm : List UInt8} {k : Nat} (hk : k < l.length) (h : agnB (l.take k) nm = false) : agnB (l.take (k + 1)) nm = (l[k].1 == nm) := by
 unfold agnB at h ⊢
 rw [List.take_succ_eq_append_getElem hk, List.any_append, h]
 simp
theorem ba_eq (s t : List UInt8) : (({ data := s.toArray } : ByteArray).toList == ({ data := t.toArray } : ByteArray).toList) = (s == t) := by simp [ByteArray.toList_eq]
theorem again1_any (x : PnV) (y : PnV) (g : Nat) (w : World) (hg : Blk w g 30 #[sV y.1, .int .i64 y.2.1, slV y.2.2.1, slV y.2.2.2]) :
  Calls Tryz.prog 182 #[.agg #[sV x.1, .int .i64 x.2.1, slV x.2.2.1, slV x.2.2.2], .pointer (some ⟨g, 0, none⟩)] w (RV w (.bool (x.1 == y.1))) := by
 have hE := ba_eq x.1 y.1
 unfold sV slV at hg ⊢
 obtain ⟨B1, hB1⟩ : ∃ B : ByteArray, ({ data := x.1.toArray } : ByteArray) = B := ⟨_, rfl⟩
 obtain ⟨B2, hB2⟩ : ∃ B : ByteArray, ({ data := y.1.toArray } : ByteArray) = B := ⟨_, rfl⟩
 rw [hB1, hB2] at hE
 rw [hB2] at hg
 rw [hB1]
 have hX := Blk.new w 30 #[.string B1, .int .i64 x.2.1, .slice x.2.2.1.1 x.2.2.1.2.1 x.2.2.1.2.2, .slice x.2.2.2.1 x.2.2.2.2.1 x.2.2.2.2.2]
 have fX := hX.facts
 replace hg := hg.alloc (.cells #[.string B1, .int .i64 x.2.1, .slice x.2.2.1.1 x.2.2.1.2.1 x.2.2.1.2.2, .slice x.2.2.2.1 x.2.2.2.2.1 x.2.2.2.2.2] 30)
 have fg := hg.facts
 have HE := Lib.hid hE
 clear hB1 hB2 hE
 obtain ⟨q, hq⟩ : ∃ q, (x.1 == y.1) = q := ⟨_, rfl⟩
 rw [hq] at HE ⊢
 clear hq
 go_enter Tryz.func182, Tryz.ntmps182
 go_wp2
 go_ret
 exact ⟨by rw [← HE.out]; rfl, by (repeat first|exact J0|assumption|(apply J1;assumption)|apply J2|apply J3|apply J4)⟩
def IxP (w : World) (b : Bool) (e : Ending) (w' : World) : Prop := ∃ n : Int, e = .returned (.int .i64 n) ∧ decide (0 ≤ n) = b ∧ Below w.heap.size w w'
theorem idxAgn_any (xs : List PnV) (l : List Pan) (A : Option Addr) (c : Nat) (y : PnV) (g : Nat) (w : World) (hx : PnsAt w xs l) (h : Rd pnc 4 w A xs) (hl : xs.length ≤ 100000) (hg : Blk w g 30 #[sV y.1, .int .i64 y.2.1, slV y.2.2.1, slV y.2.2.2]) :
  Calls Tryz.prog 212 #[.slice A xs.length c, .func (.func 182) #[] #[.pointer (some ⟨g, 0, none⟩)]] w (IxP w (agnB l y.1)) := by
 have HLN := Lib.hid hx.len
 have hl1 : xs.length ≤ l.length := Nat.le_of_eq HLN.out
 have hl2 : l.length ≤ xs.length := Nat.le_of_eq HLN.out.symm
 go_enter Tryz.func212, Tryz.ntmps212
 go_wp2
 go_loopw [8] (fun i wr => ∃ k : Nat, k ≤ xs.length ∧ i = .int .i64 k ∧ Hid (agnB (l.take k) y.1 = false) ∧ Below w.heap.size w wr) (fun i _ => xs.length - (intOf i).toNat)
 case atStart => exact ⟨0, Nat.zero_le _, rfl, rfl, bl_refl⟩
 case round =>
  obtain ⟨k, hk, rfl, HK, hbw⟩ := hrel
  by_cases hlt : k < xs.length
  ·have hkl : k < l.length := by omega
   have hp := (hx.get (List.getElem?_eq_getElem hlt) (List.getElem?_eq_getElem hkl)).nm
   obtain ⟨b, off, rfl, hb, e0, e1, e2, e3⟩ := (h.below hbw).pan (List.getElem?_eq_getElem hlt)
   have HA := Lib.hid (agn_at hkl HK.out)
   have HI := Lib.hid (agn_in (nm := y.1) hkl)
   have hC := again1_any xs[k] y g _ (hg.below hbw)
   rw [hp] at hC
   obtain ⟨⟨x0, x1, ⟨a0, a1, a2⟩, ⟨b0, b1, b2⟩⟩, hxx⟩ : ∃ z, xs[k] = z := ⟨_, rfl⟩
   rw [hxx] at e0 e1 e2 e3 hC hp
   simp only at e0 e1 e2 e3 hC hp
   rw [← hp] at hC HA HI
   obtain ⟨q, hq⟩ : ∃ q, (x0 == y.1) = q := ⟨_, rfl⟩
   rw [hq] at hC HA HI
   simp only [sV, slV] at e0 e2 e3 hC
   clear hxx hq hp
   cases q
   ·go_wp2_with fail
    refine (hC).mono ?_
    rintro e w2 ⟨rfl, hb2⟩
    go_wp2
    go_roundw
    case rel => exact ⟨k + 1, by omega, by go_num, HA.out, by (repeat first|exact J0|assumption|(apply J1;assumption)|apply J2|apply J3|apply J4)⟩
    case measure => simp [intOf]; omega
   ·go_wp2_with fail
    refine (hC).mono ?_
    rintro e w2 ⟨rfl, hb2⟩
    go_wp2
    go_ret
    exact ⟨_, rfl, by rw [HI.out (by trivial)]; simp, by (repeat first|exact J0|assumption|(apply J1;assumption)|apply J2|apply J3|apply J4)⟩
  ·obtain rfl : k = xs.length := by omega
   have HE : Hid (agnB l y.1 = false) := by have := HK.out; rw [HLN.out, List.take_length] at this; exact this
   go_wp2
   go_ret
   exact ⟨_, rfl, by rw [HE.out]; rfl, by (repeat first|exact J0|assumption|(apply J1;assumption)|apply J2|apply J3|apply J4)⟩
theorem contAgn_any (xs : List PnV) (l : List Pan) (A : Option Addr) (c : Nat) (y : PnV) (g : Nat) (w : World) (hx : PnsAt w xs l) (h : Rd pnc 4 w A xs) (hl : xs.length ≤ 100000) (hg : Blk w g 30 #[sV y.1, .int .i64 y.2.1, slV y.2.2.1, slV y.2.2.2]) :
  Calls Tryz.prog 181 #[.slice A xs.length c, .func (.func 182) #[] #[.pointer (some ⟨g, 0, none⟩)]] w (RV w (.bool (agnB l y.1))) := by
 go_enter Tryz.func181, Tryz.ntmps181
 go_wp2_with fail
 refine (idxAgn_any xs l A c y g w hx h hl hg).mono ?_
 rintro e w2 ⟨n, rfl, hn, hb2⟩
 have HN := Lib.hid hn
 clear hn
 go_wp2
 go_ret
 exact ⟨by rw [← HN.out]; rfl, by (repeat first|exact J0|assumption|(apply J1;assumption)|apply J2|apply J3|apply J4)⟩
theorem again_any (xs : List PnV) (l : List Pan) (A : Option Addr) (c : Nat) (y : PnV) (w : World) (hx : PnsAt w xs l) (h : Rd pnc 4 w A xs) (hl : xs.length ≤ 100000) :
  Calls Tryz.prog 152 #[.slice A xs.length c, .agg #[sV y.1, .int .i64 y.2.1, slV y.2.2.1, slV y.2.2.2]] w (RV w (.bool (agnB l y.1))) := by
 have hB := Blk.new w 30 #[sV y.1, .int .i64 y.2.1, slV y.2.2.1, slV y.2.2.2]
 have hC := contAgn_any xs l A c y w.heap.size _ (hx.below (bl_alloc bl_refl _)) (h.alloc _) hl hB
 unfold sV slV at hC ⊢
 go_enter Tryz.func152, Tryz.ntmps152
 go_wp2_with fail
 refine (hC).mono ?_
 rintro e w2 ⟨rfl, hb2⟩
 go_wp2
 go_ret
 exact ⟨rfl, by (repeat first|exact J0|assumption|(apply J1;assumption)|apply J2|apply J3|apply J4)⟩
def atE (l : List Pan) (k : Nat) (p : Pan) : Int := firstI [panE p, whenI (agnB (l.take k) p.1) 9]
def fromE (l : List Pan) : Nat → List Pan → Int
 | _, [] => 0
 | k, p :: r => if atE l k p = 0 then fromE l (k + 1) r else atE l k p
def allE (l : List Pan) : Int := if 16 < l.length then 5 else fromE l 0 l
theorem fromE_at {l : List Pan} {k : Nat} (hk : k < l.length) : fromE l k (l.drop k) = if atE l k l[k] = 0 then fromE l (k + 1) (l.drop (k + 1)) else atE l k l[k] := by
 rw [List.drop_eq_getElem_cons hk]
 rfl
theorem fromE_zero {l : List Pan} : ∀ (r : List Pan) (k : Nat), fromE l k r = 0 → ∀ p ∈ r, panE p = 0
 | [], _, _, p, hp => by cases hp
 | q :: r, k, h, p, hp => by
  unfold fromE at h
  split at h
  ·rename_i h0
   rcases List.mem_cons.1 hp with rfl | hp
   ·exact (firstI_zero h0).1
   ·exact fromE_zero r (k + 1) h p hp
  ·rename_i h0
   exact absurd h h0
theorem allE_zero {l : List Pan} (h : allE l = 0) : l.length ≤ 16 ∧ ∀ p ∈ l, panE p = 0 := by
 unfold allE at h
 split at h
 ·omega
 ·exact ⟨by omega, fromE_zero l 0 h⟩
theorem PnsAt.take {w : World} : ∀ {xs : List PnV} {l : List Pan} (k : Nat), PnsAt w xs l → PnsAt w (xs.take k) (l.take k)
 | _, _, 0, _ => by simp [PnsAt]
 | [], [], k + 1, _ => by simp [PnsAt]
 | _ :: _, _ :: _, k + 1, h => ⟨h.1, PnsAt.take k h.2⟩
 | [], _ :: _, _ + 1, h => h.elim
 | _ :: _, [], _ + 1, h => h.elim
theorem Rd.take_ {α : Type} {enc : α → List Value} {sz : Nat} {w : World} {A : Option Addr} {l : List α} (h : Rd enc sz w A l) (k : Nat) : Rd enc sz w A (l.take k) := fun i x hx => h i x (by
 rw [List.getElem?_take] at hx
 split at hx
 ·exact hx
 ·cases hx)
theorem checkAll_any {v : Value} (l : List Pan) (w : World) (h : SlP w v l) (hnm : ∀ p ∈ l, p.1.length ≤ 1000000) : Calls Tryz.prog 96 #[v] w (RV w (.int .i64 (allE l))) := by
 obtain ⟨xs, ⟨A, c, rfl, hlc, hcm, hr⟩, hx⟩ := h
 have HLN := Lib.hid hx.len
 have hl1 : xs.length ≤ l.length := Nat.le_of_eq HLN.out
 have hl2 : l.length ≤ xs.length := Nat.le_of_eq HLN.out.symm
 have hHN := Lib.hid hnm
 clear hnm
 by_cases h16 : 16 < l.length
 ·have HE : Hid (allE l = 5) := by unfold Hid allE; rw [if_pos h16]
  have t1 : (16 < xs.length) = True := eq_true (by omega)
  have t2 : (16 < (xs.length : Int)) = True := eq_true (by omega)
  clear h16
  go_enter Tryz.func96, Tryz.ntmps96
  go_wp2
  go_ret
  exact ⟨by rw [HE.out]; rfl, by (repeat first|exact J0|assumption|(apply J1;assumption)|apply J2|apply J3|apply J4)⟩
 ·have HE : Hid (allE l = fromE l 0 l) := by unfold Hid allE; rw [if_neg h16]
  have t1 : (16 < xs.length) = False := eq_false (by omega)
  have t2 : (16 < (xs.length : Int)) = False := eq_false (by omega)
  have hl16 : xs.length ≤ 16 := by omega
  clear h16
  go_enter Tryz.func96, Tryz.ntmps96
  go_wp2
  go_loopw [11] (fun s wr => ∃ k : Nat, k ≤ xs.length ∧ s = .int .i64 k ∧ Hid (fromE l 0 l = fromE l k (l.drop k)) ∧ Below w.heap.size w wr) (fun s _ => xs.length - (intOf s).toNat)
  case atStart => exact ⟨0, Nat.zero_le _, rfl, rfl, bl_refl⟩
  case round =>
   clear t1 t2
   obtain ⟨k, hk, rfl, HK, hbw⟩ := hrel
   obtain ⟨wo, rfl⟩ : ∃ x, x = wr := ⟨_, rfl⟩
   by_cases hlt : k < xs.length
   ·have hkl : k < l.length := by omega
    have hp := hx.get (List.getElem?_eq_getElem hlt) (List.getElem?_eq_getElem hkl)
    have hnk := hHN.out _ (List.getElem_mem hkl)
    have HF := Lib.hid (fromE_at hkl)
    obtain ⟨b, off, rfl, hb, e0, e1, e2, e3⟩ := (hr.below hbw).pan (List.getElem?_eq_getElem hlt)
    obtain ⟨p, hpe⟩ : ∃ p, l[k] = p := ⟨_, rfl⟩
    rw [hpe] at hp hnk HF
    obtain ⟨x, hxe⟩ : ∃ x, xs[k] = x := ⟨_, rfl⟩
    rw [hxe] at hp e0 e1 e2 e3
    have hcp := fun W (hb : Below w.heap.size w W) => checkPanel_any p W hnk (hp.left.below hb) (hp.right.below hb)
    have hag := fun W (hb : Below w.heap.size w W) cc => again_any (xs.take k) (l.take k) (some ⟨b, off, none⟩) cc x W ((hx.take k).below hb) ((hr.take_ k).below hb) (by rw [List.length_take]; omega)
    have htk : (xs.take k).length = k := by rw [List.length_take]; omega
    rw [htk] at hag
    rw [← hp.nm, ← hp.wd] at hcp
    have hf2 : ∀ A c' W, Rd ic 1 W A [panE p, whenI (agnB (l.take k) x.1) 9] → Calls Tryz.prog 72 #[.slice A 2 c'] W (RV W (.int .i64 (atE l k p))) := fun A c' W hr => by
     unfold atE
     rw [← hp.nm]
     exact pfirst_any [panE p, whenI (agnB (l.take k) x.1) 9] A c' W (by simp [maxLen]) hr
    obtain ⟨⟨n0, n1, ⟨a0, a1, a2⟩, ⟨b0, b1, b2⟩⟩, hxx⟩ : ∃ z, x = z := ⟨_, rfl⟩
    rw [hxx] at e0 e1 e2 e3 hcp hag hf2
    simp only at e0 e1 e2 e3 hcp hag hf2
    obtain ⟨E, hE⟩ : ∃ E, atE l k p = E := ⟨_, rfl⟩
    rw [hE] at hf2 HF
    obtain ⟨E1, hE1⟩ : ∃ E, panE p = E := ⟨_, rfl⟩
    rw [hE1] at hf2 hcp
    obtain ⟨q, hq⟩ : ∃ q, agnB (l.take k) n0 = q := ⟨_, rfl⟩
    have HP2 := Lib.hid hp
    clear hp
    rw [hq] at hf2 hag
    simp only [sV, slV] at e0 e2 e3 hcp hag
    clear hxx hE hE1 hq hpe hxe htk
    have hX := Blk.new wo 30 #[.string ⟨n0.toArray⟩, .int .i64 n1, .slice a0 a1 a2, .slice b0 b1 b2]
    have fX := hX.facts
    have hbx := bl_alloc hbw (.cells #[.string ⟨n0.toArray⟩, .int .i64 n1, .slice a0 a1 a2, .slice b0 b1 b2] 30)
    go_upto_region 6 with fail
    obtain ⟨wx, hwx⟩ : ∃ X, wo.alloc (.cells #[.string ⟨n0.toArray⟩, .int .i64 n1, .slice a0 a1 a2, .slice b0 b1 b2] 30) = X := ⟨_, rfl⟩
    obtain ⟨gx, hgx⟩ : ∃ X, wo.heap.size = X := ⟨_, rfl⟩
    rw [hwx, hgx] at hX
    rw [hwx] at hbx
    rw [hwx, hgx]
    clear hwx hgx fX e0 e1 e2 e3
    have fX := hX.facts
    refine wp_region_ords [0, 2, 3, 4, 5] [(1, false)] [6, 7, 8, 9, 10] (by kernel_rfl) (by kernel_rfl) (fun d _ _ _ _ h => by cases d <;> exact h) ?_
    simp only [List.map_cons, List.map_nil, List.getD_cons_zero, List.getD_cons_succ]
    repeat (go_big_quiet_step (fail))
    refine wpQuiet_nil ?_
    refine wpMid_run rfl (fun K hK => ?_)
    go_simp
    refine (hcp _ (by (repeat first|exact J0|assumption|(apply J1;assumption)|apply J2|apply J3|apply J4))).mono ?_
    rintro e w8 ⟨rfl, hb8⟩
    refine hK _ _ (by (repeat first|exact J0|assumption|(apply J1;assumption)|apply J2|apply J3|apply J4)) ?_
    clear hK K
    have hX_w8 := hX.below (show Below _ _ w8 by (repeat first|exact J0|assumption|(apply J1;assumption)|apply J2|apply J3|apply J4))
    have fhX_w8 := hX_w8.facts
    refine wpMid_nil ?_
    go_wp2_with fail
    refine (hag _ (by (repeat first|exact J0|assumption|(apply J1;assumption)|apply J2|apply J3|apply J4)) _).mono ?_
    rintro e w9 ⟨rfl, hb9⟩
    go_wp2_with fail
    refine (pwhen_any _ 9 _).mono ?_
    rintro e w10 ⟨rfl, hb10⟩
    go_wp2_with fail
    go_must (refine (hf2 _ _ _ (Rd.ints2 (by simp) (by go_simp) (by go_simp))).mono ?_)
    rintro e w11 ⟨rfl, hb11⟩
    by_cases hz : E = 0
    ·have t0 : (E != 0) = false := by simp [hz]
     have HN : Hid (fromE l 0 l = fromE l (k + 1) (l.drop (k + 1))) := by unfold Hid; rw [HK.out, HF.out, if_pos hz]
     clear hz
     go_wp2
     go_roundw
     case rel => exact ⟨k + 1, by omega, by go_num, HN.out, by (repeat first|exact J0|assumption|(apply J1;assumption)|apply J2|apply J3|apply J4)⟩
     case measure => simp [intOf]; omega
    ·have t0 : (E != 0) = true := by simp [hz]
     have HN : Hid (allE l = E) := by unfold Hid; rw [HE.out, HK.out, HF.out, if_neg hz]
     clear hz
     go_wp2
     go_ret
     exact ⟨by rw [HN.out]; rfl, by (repeat first|exact J0|assumption|(apply J1;assumption)|apply J2|apply J3|apply J4)⟩
   ·obtain rfl : k = xs.length := by omega
    have HEE : Hid (allE l = 0) := by unfold Hid; rw [HE.out, HK.out, HLN.out, List.drop_length]; rfl
    go_wp2
    go_ret
    exact ⟨by rw [HEE.out]; rfl, hbw⟩
end Go.Proofs.YtkkefahobjlagaaGreatDoor

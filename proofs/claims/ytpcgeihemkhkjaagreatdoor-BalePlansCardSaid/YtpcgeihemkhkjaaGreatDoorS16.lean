/- reach, walked. Conditions: the outline ascends. -/
import Derived.Test.YtpcgeihemkhkjaaGreatDoorS15
import Derived.Test.YtpcgeihemkhkjaaGreatDoorS11
namespace Go.Proofs.YtpcgeihemkhkjaaGreatDoor
open Go.RowKit Go.ChangeMaps
set_option maxHeartbeats 4000000
set_option maxRecDepth 100000
attribute [local go_sem] Oper.semAt_some
theorem Zer {A : Option Addr} {c : Nat} {l : List Knot} {w : World} (h : Rd kc 2 w A l) (hlc : l.length ≤ c) (hc : c ≤ maxLen) (h1 : 1 ≤ l.length) :
  ∃ A1 c1, (∀ W, (Instr.slice 209 (.slice A l.length c) (some (.int .i64 1)) none none).run Tryz.prog W = .ok (.slice A1 (l.length - 1) c1) W) ∧ Rd kc 2 w A1 (l.drop 1) ∧ ∀ b off, A1 = some ⟨b, off, none⟩ → ∃ off', A = some ⟨b, off', none⟩ := by
 obtain ⟨A1, c1, he, _, _, hr⟩ := Z5o h hlc h1 hc
 refine ⟨A1, c1, fun W => ?_, hr, fun b off e => ?_⟩
 ·have hu : Tryz.prog.underlying 209 = some (.slice (Tryz.prog.elem 209)) := by kernel_rfl
  have hs : ∀ W, (sizeOf (Tryz.prog.elem 209)).run Tryz.prog W = .ok 2 W := fun W => by kernel_rfl
  rw [run_slice_l W 209 A l.length c hu .i64 1 (by omega) (by omega), hs]
  simp only [Result.andThen_ok, sliced]; rw [List.length_drop] at he; exact congrArg (fun v => Result.ok v W) he
 ·have h2 := (Value.slice.inj he).1
  rw [e] at h2; obtain ⟨b0, off0, rfl, _, _, _⟩ := h.knot h1
  split at h2
  ·exact ⟨off, h2⟩
  ·simp only [Option.map_some, Addr.add, Option.some.injEq] at h2
   simp at h2
   exact ⟨off0, by rw [h2.1]⟩
theorem Rd.chgN {α : Type} {enc : α → List Value} {sz : Nat} {S : List Nat} {w w' : World} {A : Option Addr} {l : List α} (h : Rd enc sz w A l) (hc : Chg S w w') (hS : ∀ b off, A = some ⟨b, off, none⟩ → b ∉ S) : Rd enc sz w' A l := fun i x hx => by
 obtain ⟨b, off, e, hlt, hcell⟩ := h i x hx
 refine ⟨b, off, e, Nat.lt_of_lt_of_le hlt hc.size, fun j u hu => ?_⟩
 have h1 := hcell j u hu
 unfold World.cell? at h1 ⊢
 simp only at h1 ⊢
 rw [hc.block b hlt (hS b off e)]
 exact h1
theorem Zes {l : List Knot} {i : Nat} (h : i + 1 < l.length) : (l.drop 1)[i]'(by rw [List.length_drop]; omega) = l[i + 1] := by
 rw [List.getElem_drop]
 simp [Nat.add_comm]
theorem Zet {l : List Knot} (h : Asc l) {i : Nat} (hi : i < l.length) : ∃ (x : Int) (y : Nat), l[i] = (x, (y : Int)) ∧ -100000 ≤ x ∧ x ≤ 100000 ∧ y ≤ 100000 := by
 have h1 := h.nn hi
 have h2 := h.near i hi
 refine ⟨l[i].1, l[i].2.toNat, ?_, h2.1, h2.2.1, by omega⟩
 rw [Int.toNat_of_nonneg h1]
theorem Zeu (l : List Knot) (A : Option Addr) (c n : Nat) (w : World) (hA : Asc l) (hl : l.length ≤ 100000) (hr : Rd kc 2 w A l) (hlc : l.length ≤ c) (hcm : c ≤ maxLen) (hn : ∀ h : l.length - 1 < l.length, l[l.length - 1].2 = (n : Int)) :
  Calls Tryz.prog 185 #[.slice A l.length c] w (RG kc 2 119 w ((List.range (n + 1)).map fun y => rchI l (y : Nat))) := by
 have hne := hA.ne
 have HN := Lib.hid hn
 obtain ⟨tx, hlast, hn2⟩ : ∃ tx, l[l.length - 1]? = some (tx, (n : Int)) ∧ n ≤ 100000 := by
  have h1 : l.length - 1 < l.length := by omega
  have h2 := hn h1
  have h3 := (hA.near _ h1).2.2
  exact ⟨l[l.length - 1].1, by rw [List.getElem?_eq_getElem h1, ← h2], by omega⟩
 obtain ⟨x0, y0, hf0, hx0, hx0', _⟩ := Zet hA hne
 have HF0 : Hid (l[0]? = some (x0, (y0 : Int))) := by unfold Hid; rw [List.getElem?_eq_getElem hne, hf0]
 obtain ⟨A1, c1, hsl, hr1, _⟩ := Zer hr hlc hcm hne
 obtain ⟨b, off, rfl, hbw0, k0, k1⟩ := hr.knot hne
 rw [hf0] at k0 k1
 simp only [Nat.zero_mul, Nat.add_zero] at k0 k1
 have hmk : ∀ W, (Instr.makeSlice 261 (.int .i64 ((n : Int) + 1)) (.int .i64 ((n : Int) + 1))).run Tryz.prog W = _ := fun W => Zep W (n + 1) (by omega)
 obtain ⟨m, hm⟩ : ∃ m, l.length - 1 = m := ⟨_, rfl⟩
 have hm1 : l.length ≤ m + 1 := by omega
 have hm2 : m + 1 ≤ l.length := by omega
 rw [hm] at hsl hlast
 have HL := Lib.hid hlast
 have HM := Lib.hid hm
 clear hn hlast hm hf0
 have ht := fun W h => Zan l (some ⟨b, off, none⟩) c W h (by omega) tx n (by have := HL.out; rw [HM.out]; exact this)
 go_enter Tryz.func185, Tryz.ntmps185
 go_wp2_with fail
 refine (ht _ hr).mono ?_
 rintro e w1 ⟨rfl, hb1⟩
 go_upto_region 3 with fail
 have hG := (Blk.new w1 119 (rowC (n + 1) fun _ => (0, 0))).alloc (.cells #[.slice (some ⟨w1.heap.size, 0, none⟩) (n + 1) (n + 1)] 261)
 have hB := Blk.new1 w1 (.cells (rowC (n + 1) fun _ => (0, 0)) 119) 261 #[.slice (some ⟨w1.heap.size, 0, none⟩) (n + 1) (n + 1)]
 obtain ⟨w2, hw2⟩ : ∃ X, (w1.alloc (.cells (rowC (n + 1) fun _ => (0, 0)) 119)).alloc (.cells #[.slice (some ⟨w1.heap.size, 0, none⟩) (n + 1) (n + 1)] 261) = X := ⟨_, rfl⟩
 have hb2 : Below w.heap.size w w2 := by rw [← hw2]; exact Z04 (Z04 hb1 _) _
 obtain ⟨g, hg⟩ : ∃ g, w1.heap.size = g := ⟨_, rfl⟩
 have hgw : w.heap.size ≤ g := by rw [← hg]; exact hb1.size
 rw [hw2, hg] at hG hB
 rw [hw2, hg]
 clear hw2 hg hb1 ht hmk
 have fB := hB.facts
 have hr2 := hr.below hb2
 obtain ⟨_, _, hE2, hbw2, q0, q1⟩ := hr2.knot hne
 obtain ⟨rfl, rfl⟩ : b = _ ∧ off = _ := by simpa using hE2
 clear hE2 k0 k1
 rw [show (l[0] : Knot) = (x0, (y0 : Int)) by have := HF0.out; rw [List.getElem?_eq_getElem hne] at this; exact Option.some.inj this] at q0 q1
 simp only [Nat.zero_mul, Nat.add_zero] at q0 q1
 go_wp2_with fail
 refine (Zeg (g + 1) g (n + 1) 0 (fun _ => (0, 0)) x0 _ hB hG (by omega)).mono ?_
 rintro e w3 ⟨rfl, hG3, hc3⟩
 have hb3 : Below w.heap.size w w3 := Z9f hb2 hc3 hgw
 have hB3 := hB.chg hc3 (by simp)
 have HR0 : Hid (Z7g l 0 (putF (fun _ => (0, 0)) 0 x0 true)) := Z7h hA _ HF0.out
 obtain ⟨f0, hf0⟩ : ∃ f, putF (fun _ => (0, 0)) 0 x0 true = f := ⟨_, rfl⟩
 rw [hf0] at hG3 HR0
 clear hf0 q0 q1 fB hB hG hr2 hbw2
 go_wp2
 go_loopw [23] (fun s wr => ∃ (i : Nat) (f : Nat → Int × Int), i ≤ m ∧ s = .int .i64 i ∧ Blk wr g 119 (rowC (n + 1) f) ∧ Hid (Z7g l i f) ∧ Blk wr (g + 1) 261 #[.slice (some ⟨g, 0, none⟩) (n + 1) (n + 1)] ∧ Below w.heap.size w wr) (fun s _ => m - (intOf s).toNat)
 case atStart => exact ⟨0, f0, Nat.zero_le _, rfl, hG3, HR0, hB3, hb3⟩
 case round =>
  clear hG3 HR0 hB3 hb3 hc3 hb2; obtain ⟨i, f, hi, rfl, hGi, HFi, hBi, hbi⟩ := hrel; by_cases hlt : i < m
  ·have hi1 : i + 1 < l.length := by omega
   obtain ⟨xa, a, ha, _, _, _⟩ := Zet hA (show i < l.length by omega)
   obtain ⟨x, t, hx, hx1, hx2, hx3⟩ := Zet hA hi1
   have hat : a ≤ t := by have := hA.up i hi1; rw [ha, hx] at this; simpa using this
   have htn : t ≤ n := by
    have h1 := hA.le (show i + 1 ≤ m by omega) (by omega)
    have h2 := HL.out
    rw [List.getElem?_eq_getElem (by omega)] at h2
    rw [hx, Option.some.inj h2] at h1; simpa using h1
   have HA0 : Hid (l[i]? = some (xa, (a : Int))) := by unfold Hid; rw [List.getElem?_eq_getElem (by omega), ha]
   have HA1 : Hid (l[i + 1]? = some (x, (t : Int))) := by unfold Hid; rw [List.getElem?_eq_getElem hi1, hx]
   obtain ⟨_, _, hEi, hbl, _, r1⟩ := (hr.below hbi).knot (show i < l.length by omega)
   obtain ⟨rfl, rfl⟩ : b = _ ∧ off = _ := by simpa using hEi
   obtain ⟨b1, off1, rfl, hbl1, s0, s1⟩ := (hr1.below hbi).knot (k := i) (by rw [List.length_drop]; omega)
   rw [Zes hi1, hx] at s0 s1; rw [ha] at r1; simp only at s0 s1 r1
   have hK := Blk.new wr 90 #[.int .i64 x, .int .i64 t]
   have hGk := hGi.alloc (.cells #[.int .i64 x, .int .i64 t] 90)
   have hBk := hBi.alloc (.cells #[.int .i64 x, .int .i64 t] 90)
   have hbk : Below w.heap.size w (wr.alloc (.cells #[.int .i64 x, .int .i64 t] 90)) := Z04 hbi _
   clear hEi ha hx; go_upto_region 8 with fail; obtain ⟨wk, hwk⟩ : ∃ X, wr.alloc (.cells #[.int .i64 x, .int .i64 t] 90) = X := ⟨_, rfl⟩
   obtain ⟨gk, hgk⟩ : ∃ X, wr.heap.size = X := ⟨_, rfl⟩
   have hgk' : g < gk := by rw [← hgk]; exact hGi.lt
   rw [hwk, hgk] at hK; rw [hwk] at hGk hBk hbk; rw [hwk, hgk]; clear hwk hgk s0 s1 r1 hbl hbl1 hGi hBi hbi; go_loopw [7] (fun s wq => ∃ y : Nat, a + 1 ≤ y ∧ y ≤ t + 1 ∧ s = .int .i64 y ∧ Blk wq g 119 (rowC (n + 1) (Z7a f a y x)) ∧ Blk wq gk 90 #[.int .i64 x, .int .i64 t] ∧ Blk wq (g + 1) 261 #[.slice (some ⟨g, 0, none⟩) (n + 1) (n + 1)] ∧ Below w.heap.size w wq) (fun s _ => t + 1 - (intOf s).toNat)
   case atStart => exact ⟨a + 1, Nat.le_refl _, by omega, by go_num, by rw [Z7b]; exact hGk, hK, hBk, hbk⟩
   case round =>
    clear hGk hBk hbk hK; obtain ⟨y, hy1, hy2, rfl, hGy, hKy, hBy, hby⟩ := hrel; have fK := hKy.facts
    by_cases hyt : y ≤ t
    ·go_wp2_with fail
     refine (Zeg (g + 1) g (n + 1) y (Z7a f a y x) x _ hBy hGy (by omega)).mono ?_
     rintro e w5 ⟨rfl, hG5, hc5⟩; rw [Z7c (by omega)] at hG5
     have hK5 := hKy.chg hc5 (by simp; omega)
     have hB5 := hBy.chg hc5 (by simp)
     have hb5 := Z9f hby hc5 hgw
     go_wp2; go_roundw; case rel => exact ⟨y + 1, by omega, by omega, by go_num, hG5, hK5, hB5, hb5⟩
     case measure => simp [intOf]; omega
    ·obtain rfl : y = t + 1 := by omega
     go_wp2_with fail; refine (Zef (g + 1) g (n + 1) t (Z7a f a (t + 1) x) x _ hBy hGy (by omega)).mono ?_
     rintro e w5 ⟨rfl, hG5, hc5⟩; have HR5 : Hid (Z7g l (i + 1) (putF (Z7a f a (t + 1) x) t x false)) := Z7i hA HA0.out HA1.out HFi.out
     have hB5 := hBy.chg hc5 (by simp)
     have hb5 := Z9f hby hc5 hgw
     go_wp2; go_roundw; case rel => exact ⟨i + 1, _, by omega, by go_num, hG5, HR5, hB5, hb5⟩
     case measure => simp [intOf]; omega
  ·obtain rfl : i = m := by omega
   have HE : Hid ((List.range (n + 1)).map f = (List.range (n + 1)).map fun y => rchI l (y : Nat)) := Z7j (by omega) HFi.out HL.out
   have fB := hBi.facts
   go_wp2; go_ret; exact ⟨_, rfl, by rw [← HE.out]; exact hGi.row Z21 hgw (by omega), hbi⟩
theorem Zev {v : Value} (l : List Knot) (w : World) (h : SlK w v l) (hf : ∀ k ∈ l, farX k = false) :
  Calls Tryz.prog 213 #[v, .func (.func 184) #[] #[]] w (RV w (.int .i64 (-1))) := by
 obtain ⟨A, c, rfl, hlc, hcm, h⟩ := h
 have hl : l.length ≤ maxLen := Nat.le_trans hlc hcm
 unfold maxLen at hl
 have HF := Lib.hid hf
 clear hf
 go_enter Tryz.func213, Tryz.ntmps213
 go_wp2
 go_loopw [8] (fun i wr => ∃ k : Nat, k ≤ l.length ∧ i = .int .i64 k ∧ Below w.heap.size w wr) (fun i _ => l.length - (intOf i).toNat)
 case atStart => exact ⟨0, Nat.zero_le _, rfl, Z03⟩
 case round =>
  obtain ⟨k, hk, rfl, hbw⟩ := hrel; by_cases hlt : k < l.length
  ·have hr := h.below hbw
   obtain ⟨b, off, rfl, hb, e0, e1⟩ := hr.knot hlt
   have hF := HF.out _ (List.getElem_mem hlt)
   obtain ⟨⟨x, y⟩, hx⟩ : ∃ z, l[k] = z := ⟨_, rfl⟩
   simp only [hx] at hF e0 e1; have hC := fun W => Zam x y W
   rw [hF] at hC; clear hx hF; go_wp2_with fail; refine (hC _).mono ?_
   rintro e w2 ⟨rfl, hb2⟩; go_wp2; go_roundw; case rel => exact ⟨k + 1, by omega, by go_num, by (repeat first|exact J0|assumption|(apply J1;assumption)|apply J2|apply J3|apply J4)⟩
   case measure => simp [intOf]; omega
  ·have hkl : k = l.length := by omega
   go_wp2; go_ret; exact ⟨rfl, by (repeat first|exact J0|assumption|(apply J1;assumption)|apply J2|apply J3|apply J4)⟩
theorem Zew {v : Value} (l : List Knot) (w : World) (h : SlK w v l) (hf : ∀ k ∈ l, farX k = false) :
  Calls Tryz.prog 183 #[v, .func (.func 184) #[] #[]] w (RV w (.bool false)) := by
 go_enter Tryz.func183, Tryz.ntmps183
 go_wp2_with fail
 refine (Zev l _ h hf).mono ?_
 rintro e w2 ⟨rfl, hb2⟩
 go_wp2
 go_ret
 exact ⟨rfl, by (repeat first|exact J0|assumption|(apply J1;assumption)|apply J2|apply J3|apply J4)⟩
theorem Zex {l : List Knot} (h : ∀ i (hi : i < l.length), -4096 ≤ l[i].1 ∧ l[i].1 ≤ 4096) : ∀ k ∈ l, farX k = false := by
 intro k hk
 obtain ⟨i, hi, rfl⟩ := List.getElem_of_mem hk
 have := h i hi
 unfold farX
 rw [decide_eq_false (by omega), decide_eq_false (by omega)]
 rfl
theorem Zey (p : Pan) (right : Bool) (hw : 1 ≤ p.2.1 ∧ p.2.1 ≤ 128) (hs : (stpL (Z33 p right)).length ≤ 512) : ∀ k ∈ outP p right, farX k = false := by
 refine Zex fun i hi => ?_
 unfold outP at hi ⊢
 rw [Z2r]
 have h1 := Z2u (right := right) (n := 256) ((stpL (Z33 p right)).take i) (k := Z34 p right) (by unfold Z34; cases right <;> simp <;> omega)
 have h2 := List.length_take_le' i (stpL (Z33 p right))
 omega
theorem Zez (L R : List Knot) (k : Nat) (h : Z73 L R k = false) : Z73 L R (k + 1) = decide ((rchI R (k : Nat)).1 < (rchI L (k : Nat)).2 + 2) := by
 unfold Z73 at h ⊢
 rw [List.range_succ, List.any_append, h]
 simp
theorem Zf0 (L R : List Knot) (n k : Nat) (hk : k < n) (h : (rchI R (k : Nat)).1 < (rchI L (k : Nat)).2 + 2) : Z73 L R n = true := by
 unfold Z73
 rw [List.any_eq_true]
 exact ⟨k, List.mem_range.2 hk, by simpa using h⟩
theorem Zf1 {w : World} {v : Value} {n : Nat} {f : Nat → Int × Int} {base : Nat} (h : Own kc 2 base 119 w v ((List.range n).map f)) {k : Nat} (hk : k < n) :
  ∃ b off c, v = .slice (some ⟨b, off, none⟩) n c ∧ b < w.heap.size ∧ w.cell? ⟨b, off + k * 2, none⟩ = some (.int .i64 (f k).1) ∧ w.cell? ⟨b, off + k * 2 + 1, none⟩ = some (.int .i64 (f k).2) := by
 obtain ⟨A, c, rfl, _, _, hr⟩ := h.rd Z21
 obtain ⟨b, off, rfl, hb, c0, c1⟩ := hr.knot (k := k) (by simpa using hk)
 exact ⟨b, off, c, by simp, hb, by simpa using c0, by simpa using c1⟩
theorem Zf2 {a : Int × Int} {x : Int} (ha : -999999999 ≤ a.1 ∧ a.1 ≤ 999999999 ∧ -999999999 ≤ a.2 ∧ a.2 ≤ 999999999) (hx : -999999999 ≤ x ∧ x ≤ 999999999) :
  -999999999 ≤ (Z6o a x).1 ∧ (Z6o a x).1 ≤ 999999999 ∧ -999999999 ≤ (Z6o a x).2 ∧ (Z6o a x).2 ≤ 999999999 := by unfold Z6o; simp only; omega
theorem Zf3 (row : Int) : ∀ (l : List Knot) (y : Int) (a : Int × Int), (∀ k ∈ l, -999999999 ≤ k.1 ∧ k.1 ≤ 999999999) → (-999999999 ≤ a.1 ∧ a.1 ≤ 999999999 ∧ -999999999 ≤ a.2 ∧ a.2 ≤ 999999999) →
  -999999999 ≤ (Z6p row y l a).1 ∧ (Z6p row y l a).1 ≤ 999999999 ∧ -999999999 ≤ (Z6p row y l a).2 ∧ (Z6p row y l a).2 ≤ 999999999
 | [], _, a, _, ha => ha
 | k :: r, y, a, hl, ha => by
  unfold Z6p; refine Zf3 row r _ _ (fun x hx => hl x (List.mem_cons_of_mem _ hx)) ?_
  split
  ·exact Zf2 ha (hl k (List.mem_cons_self ..))
  ·exact ha
theorem Zf4 {l : List Knot} (h : Asc l) (row : Int) : -999999999 ≤ (rchI l row).1 ∧ (rchI l row).1 ≤ 999999999 ∧ -999999999 ≤ (rchI l row).2 ∧ (rchI l row).2 ≤ 999999999 := by
 have hk : ∀ k ∈ l, -999999999 ≤ k.1 ∧ k.1 ≤ 999999999 := by
  intro k hk; obtain ⟨i, hi, rfl⟩ := List.getElem_of_mem hk
  have := h.near i hi
  omega
 have h0 : -999999999 ≤ Z6q.1 ∧ Z6q.1 ≤ 999999999 ∧ -999999999 ≤ Z6q.2 ∧ Z6q.2 ≤ 999999999 := by decide
 unfold rchI
 split
 ·exact h0
 ·exact Zf3 row _ _ _ hk h0
theorem Zf5 {vL vR : Value} (p : Pan) (w : World) (hnm : p.1.length ≤ 1000000) (hL : SlE w vL p.2.2.1) (hR : SlE w vR p.2.2.2) :
  Calls Tryz.prog 128 #[.agg #[sV p.1, .int .i64 p.2.1, vL, vR]] w (RV w (.int .i64 (panE p))) := by
 obtain ⟨E, hE⟩ : ∃ E, panE p = E := ⟨_, rfl⟩
 obtain ⟨E0, hE0⟩ : ∃ E, Z74 p = E := ⟨_, rfl⟩
 rw [hE]
 have HE := Lib.hid hE
 have hf4 : ∀ A c' W, Rd ic 1 W A [Z15 (!Z6k p.1) 8, Z16 p.2.1 1 128, Z38 p.2.2.1, Z38 p.2.2.2] → Calls Tryz.prog 177 #[.slice A 4 c'] W (RV W (.int .i64 E0)) := fun A c' W hr => by
  rw [← hE0]; exact Z8w [Z15 (!Z6k p.1) 8, Z16 p.2.1 1 128, Z38 p.2.2.1, Z38 p.2.2.2] A c' W (by simp [maxLen]) hr
 have HE0 := Lib.hid hE0
 clear hE hE0
 have hcn := fun W => Z6n p.1 hnm W
 have hc1 := fun W (hb : Below w.heap.size w W) => Z93 p.2.2.1 W (hL.below hb)
 have hc2 := fun W (hb : Below w.heap.size w W) => Z93 p.2.2.2 W (hR.below hb)
 have ho := fun (right : Bool) W (hb : Below w.heap.size w W) (h1 : -1000 ≤ p.2.1 ∧ p.2.1 ≤ 1000) (h2 : Zak (Z33 p right)) => Zal p right W (hL.below hb) (hR.below hb) h1 h2
 have HO := Lib.hid ho
 clear ho hnm
 obtain ⟨AL, cL, rfl, _, _, _⟩ := hL
 obtain ⟨AR, cR, rfl, _, _, _⟩ := hR
 obtain ⟨B, hB⟩ : ∃ B, sV p.1 = B := ⟨_, rfl⟩
 obtain ⟨bn, hbn⟩ : ∃ b, Z6k p.1 = b := ⟨_, rfl⟩
 obtain ⟨wd, hwd⟩ : ∃ b, p.2.1 = b := ⟨_, rfl⟩
 obtain ⟨e1, he1⟩ : ∃ b, Z38 p.2.2.1 = b := ⟨_, rfl⟩
 obtain ⟨e2, he2⟩ : ∃ b, Z38 p.2.2.2 = b := ⟨_, rfl⟩
 rw [hB, hbn] at hcn
 rw [he1] at hc1
 rw [he2] at hc2
 rw [hbn, hwd, he1, he2] at hf4
 rw [hB, hwd]
 have HW := Lib.hid hwd
 have HBn := Lib.hid hB
 have hP := Blk.new w 97 #[B, .int .i64 wd, .slice AL p.2.2.1.length cL, .slice AR p.2.2.2.length cR]
 obtain ⟨s, hs⟩ : ∃ s, B = .string s := ⟨_, hB.symm⟩
 subst hs
 clear hB hbn hwd he1 he2
 go_enter Tryz.func128, Tryz.ntmps128
 go_upto_region 1 with fail
 obtain ⟨w1, hw1⟩ : ∃ X, w.alloc (.cells #[.string s, .int .i64 wd, .slice AL p.2.2.1.length cL, .slice AR p.2.2.2.length cR] 97) = X := ⟨_, rfl⟩
 have hb1 : Below w.heap.size w w1 := by rw [← hw1]; exact Z04 Z03 _
 rw [hw1] at hP ⊢
 clear hw1
 have fhP := hP.facts
 refine Z0z [0, 1, 5, 6, 8, 9, 11, 12] [(2, false), (3, false), (4, false), (7, false), (10, false)] [13, 14, 15, 16] (by kernel_rfl) (by kernel_rfl) (fun d _ _ _ _ h => by cases d <;> exact h) ?_
 simp only [List.map_cons, List.map_nil, List.getD_cons_zero, List.getD_cons_succ]
 repeat (go_big_quiet_step (fail))
 refine wpQuiet_nil ?_
 refine Z11 rfl (fun K hK => ?_)
 go_simp
 refine (hcn _).mono ?_
 rintro e w2 ⟨rfl, hb2⟩
 refine hK _ _ (by (repeat first|exact J0|assumption|(apply J1;assumption)|apply J2|apply J3|apply J4)) ?_
 clear hK K
 have hP_w2 := hP.below (show Below _ _ w2 by (repeat first|exact J0|assumption|(apply J1;assumption)|apply J2|apply J3|apply J4))
 have fhP_w2 := hP_w2.facts
 refine Z11 rfl (fun K hK => ?_)
 go_simp
 refine hK _ _ (by (repeat first|exact J0|assumption|(apply J1;assumption)|apply J2|apply J3|apply J4)) ?_
 clear hK K
 refine Z11 rfl (fun K hK => ?_)
 go_simp
 refine (Z8u _ 8 _).mono ?_
 rintro e w3 ⟨rfl, hb3⟩
 refine hK _ _ (by (repeat first|exact J0|assumption|(apply J1;assumption)|apply J2|apply J3|apply J4)) ?_
 clear hK K
 have hP_w3 := hP.below (show Below _ _ w3 by (repeat first|exact J0|assumption|(apply J1;assumption)|apply J2|apply J3|apply J4))
 have fhP_w3 := hP_w3.facts
 refine Z11 rfl (fun K hK => ?_)
 go_simp
 refine (Z8v wd 1 128 _).mono ?_
 rintro e w4 ⟨rfl, hb4⟩
 refine hK _ _ (by (repeat first|exact J0|assumption|(apply J1;assumption)|apply J2|apply J3|apply J4)) ?_
 clear hK K
 have hP_w4 := hP.below (show Below _ _ w4 by (repeat first|exact J0|assumption|(apply J1;assumption)|apply J2|apply J3|apply J4))
 have fhP_w4 := hP_w4.facts
 refine Z11 rfl (fun K hK => ?_)
 go_simp
 refine (hc1 _ (by (repeat first|exact J0|assumption|(apply J1;assumption)|apply J2|apply J3|apply J4))).mono ?_
 rintro e w5 ⟨rfl, hb5⟩
 refine hK _ _ (by (repeat first|exact J0|assumption|(apply J1;assumption)|apply J2|apply J3|apply J4)) ?_
 clear hK K
 have hP_w5 := hP.below (show Below _ _ w5 by (repeat first|exact J0|assumption|(apply J1;assumption)|apply J2|apply J3|apply J4))
 have fhP_w5 := hP_w5.facts
 refine Z10 ?_
 go_wp2_with (go_at_call 180; refine (hc2 _ (by (repeat first|exact J0|assumption|(apply J1;assumption)|apply J2|apply J3|apply J4))).mono ?_; rintro e w6 ⟨rfl, hb6⟩)
 go_must (refine (hf4 _ _ _ (Rd.ints4 (by simp) (by go_simp) (by go_simp) (by go_simp) (by go_simp))).mono ?_)
 rintro e w7 ⟨rfl, hb7⟩
 have hP7 := hP.below (show Below w1.heap.size w1 w7 by (repeat first|exact J0|assumption|(apply J1;assumption)|apply J2|apply J3|apply J4))
 have hbw7 : Below w.heap.size w w7 := by (repeat first|exact J0|assumption|(apply J1;assumption)|apply J2|apply J3|apply J4)
 clear hc1 hc2 hcn hf4 hb2 hb3 hb4 hb5 hb6 hb7 hP_w2 hP_w3 hP_w4 hP_w5 fhP_w2 fhP_w3 fhP_w4 fhP_w5 hP fhP hb1
 by_cases hz : E0 = 0
 ·have t0 : (E0 != 0) = false := by simp [hz]
  obtain ⟨_, hw, hsL, hsR⟩ := Zau (HE0.out.trans hz)
  have HEE : Hid (E = if Z75 p ≠ 0 then Z75 p else Z15 (Z73 (outP p false) (outP p true) ((Z35 p).toNat + 1)) 16) := by
   unfold Hid; rw [← HE.out]; unfold panE; rw [HE0.out, if_neg (by simp [hz])]
  have o1 := fun W hb => HO.out false W hb (by omega) hsL.sideOk
  have o2 := fun W hb => HO.out true W hb (by omega) hsR.sideOk
  have ha1 := Z79 p false (by omega) hsL.len
  have ha2 := Z79 p true (by omega) hsR.len
  have hn1 := Zey p false hw hsL.len
  have hn2 := Zey p true hw hsR.len
  have l1 := Zaq p false hsL.sideOk
  have l2 := Zaq p true hsR.sideOk
  have e1 := Zao p false
  have e2 := Zao p true
  have y1 : _ = Z35 p := Zap p false
  have y2 : _ = Z2w (stpL p.2.2.2) := Zap p true
  obtain ⟨⟨tx1, ty1⟩, hk1⟩ : ∃ z, posK false (Z34 p false) (stpL (Z33 p false)) = z := ⟨_, rfl⟩
  obtain ⟨⟨tx2, ty2⟩, hk2⟩ : ∃ z, posK true (Z34 p true) (stpL (Z33 p true)) = z := ⟨_, rfl⟩
  rw [hk1] at e1 y1; rw [hk2] at e2 y2; simp only at y1 y2
  have z1 := Z30 (stpL p.2.2.1)
  have z2 := Z30 (stpL p.2.2.2)
  obtain ⟨H1, hH1⟩ : ∃ H : Nat, ty1 = H := ⟨ty1.toNat, by unfold Z35 at y1; omega⟩
  obtain ⟨H2, hH2⟩ : ∃ H : Nat, ty2 = H := ⟨ty2.toNat, by omega⟩
  have hH1b : H1 ≤ 2000 := by have := hsL.len; unfold Z35 at y1; omega
  have hH2b : H2 ≤ 2000 := by have := hsR.len; omega
  have HP1 : Hid (Z75 p = Z17 [Z15 (decide ((H1 : Int) ≠ H2)) 2, Z15 (decide ((H1 : Int) = 0)) 12, Z15 (decide (256 < (H1 : Int))) 4]) := by
   unfold Hid Z75; rw [← hH1, ← hH2, y1, y2]
  have HR2 : Hid (Z2w (stpL p.2.2.2) = (H2 : Int)) := by unfold Hid; rw [← y2, hH2]
  have HH : Hid ((Z35 p).toNat = H1) := by unfold Hid; rw [← y1, hH1]; rfl
  rw [hH1] at e1; rw [hH2] at e2; obtain ⟨O1, hO1⟩ : ∃ O, outP p false = O := ⟨_, rfl⟩
  obtain ⟨O2, hO2⟩ : ∃ O, outP p true = O := ⟨_, rfl⟩
  rw [hO1] at o1 ha1 hn1 l1 e1 HEE; rw [hO2] at o2 ha2 hn2 l2 e2 HEE; have he1 := Lib.hid e1
  have he2 := Lib.hid e2
  clear e1 e2 hO1 hO2 hH1 hH2 y1 y2 z1 z2 hk1 hk2 hw hsL hsR hz HO; rw [HBn.out, HW.out] at o1 o2; have fhP := hP7.facts
  go_upto_region 4 with fail; refine Z0z [0, 2] [(1, false)] [3, 4, 5] (by kernel_rfl) (by kernel_rfl) (fun d _ _ _ _ h => by cases d <;> exact h) ?_
  simp only [List.map_cons, List.map_nil, List.getD_cons_zero, List.getD_cons_succ]; repeat (go_big_quiet_step (fail))
  refine wpQuiet_nil ?_; refine Z11 rfl (fun K hK => ?_); go_simp; refine (o1 _ (by (repeat first|exact J0|assumption|(apply J1;assumption)|apply J2|apply J3|apply J4))).mono ?_
  rintro e w8 ⟨v8, rfl, hO8, hb8⟩; refine hK _ _ (by (repeat first|exact J0|assumption|(apply J1;assumption)|apply J2|apply J3|apply J4)) ?_
  clear hK K; have hP7_w8 := hP7.below (show Below _ _ w8 by (repeat first|exact J0|assumption|(apply J1;assumption)|apply J2|apply J3|apply J4))
  have fhP7_w8 := hP7_w8.facts
  refine Z10 ?_; go_wp2_with (go_at_call 181; refine (o2 _ (by (repeat first|exact J0|assumption|(apply J1;assumption)|apply J2|apply J3|apply J4))).mono ?_; rintro e w9 ⟨v9, rfl, hO9, hb9⟩)
  obtain ⟨A8, c8, rfl⟩ := hO8.shape; obtain ⟨_, _, he8, hlc8, hcm8, hr8⟩ := hO8.rd Z21
  obtain ⟨rfl, rfl⟩ : A8 = _ ∧ c8 = _ := by simpa using he8
  obtain ⟨A9, c9, rfl⟩ := hO9.shape; obtain ⟨_, _, he9, hlc9, hcm9, hr9⟩ := hO9.rd Z21
  obtain ⟨rfl, rfl⟩ : A9 = _ ∧ c9 = _ := by simpa using he9
  have hbw9 : Below w.heap.size w w9 := by (repeat first|exact J0|assumption|(apply J1;assumption)|apply J2|apply J3|apply J4)
  replace hr8 := hr8.below (show Below w8.heap.size w8 w9 by (repeat first|exact J0|assumption|(apply J1;assumption)|apply J2|apply J3|apply J4))
  clear he8 he9 hO8 hO9 hb8 hb9 hP7 fhP hP7_w8 fhP7_w8 o1 o2; go_wp2_with fail; refine (Zan O1 A8 c8 _ hr8 (by omega) tx1 H1 he1.out).mono ?_
  rintro e w10 ⟨rfl, hb10⟩; go_wp2_with fail; refine (Zew O1 _ ⟨A8, c8, rfl, hlc8, hcm8, hr8.below (by (repeat first|exact J0|assumption|(apply J1;assumption)|apply J2|apply J3|apply J4))⟩ hn1).mono ?_
  rintro e w11 ⟨rfl, hb11⟩; go_wp2_with fail; refine (Zew O2 _ ⟨A9, c9, rfl, hlc9, hcm9, hr9.below (by (repeat first|exact J0|assumption|(apply J1;assumption)|apply J2|apply J3|apply J4))⟩ hn2).mono ?_
  rintro e w12 ⟨rfl, hb12⟩; go_wp2_with fail; refine (Zan O2 A9 c9 _ (hr9.below (by (repeat first|exact J0|assumption|(apply J1;assumption)|apply J2|apply J3|apply J4))) (by omega) tx2 H2 he2.out).mono ?_
  rintro e w13 ⟨rfl, hb13⟩; obtain ⟨E1, hE1⟩ : ∃ E, Z75 p = E := ⟨_, rfl⟩
  have hf3 : ∀ A c' W, Rd ic 1 W A [Z15 ((H1 : Int) != H2) 2, Z15 ((H1 : Int) == 0) 12, Z15 (decide (256 < (H1 : Int))) 4] → Calls Tryz.prog 177 #[.slice A 3 c'] W (RV W (.int .i64 E1)) := fun A c' W hr => by
   rw [← hE1, HP1.out, show decide ((H1 : Int) ≠ H2) = ((H1 : Int) != H2) by rw [Bool.eq_iff_iff]; simp, show decide ((H1 : Int) = 0) = ((H1 : Int) == 0) by rw [Bool.eq_iff_iff]; simp]
   exact Z8w [Z15 ((H1 : Int) != H2) 2, Z15 ((H1 : Int) == 0) 12, Z15 (decide (256 < (H1 : Int))) 4] A c' W (by simp [maxLen]) hr
  rw [hE1] at HEE; have HE1 := Lib.hid hE1
  have hb913 : Below w9.heap.size w9 w13 := by (repeat first|exact J0|assumption|(apply J1;assumption)|apply J2|apply J3|apply J4)
  replace hr8 := hr8.below hb913
  replace hr9 := hr9.below hb913
  have hbw13 : Below w.heap.size w w13 := Z08 hb913 hbw9
  clear hb913 hbw9; clear hE1 hb10 hb11 hb12 hb13 HP1 hn1 hn2; by_cases h256 : 256 < (H1 : Int)
  ·have t3 : (256 < (H1 : Int)) = True := eq_true h256
   rw [decide_eq_true h256] at hf3
   have HEF : Hid (E = E1 ∧ (E1 != 0) = true) := by
    have : E1 ≠ 0 := by
     rw [← HE1.out]; intro h; have := Zav h
     have h3 := HH.out
     omega
    exact ⟨by rw [HEE.out, if_pos this], by simp [this]⟩
   have t1 := HEF.out.2
   clear h256; go_wp2_with fail; refine (Z8u _ 2 _).mono ?_
   rintro e w14 ⟨rfl, hb14⟩; go_wp2_with fail; refine (Z8u _ 12 _).mono ?_
   rintro e w15 ⟨rfl, hb15⟩; go_wp2_with fail; refine (Z8u _ 4 _).mono ?_
   rintro e w16 ⟨rfl, hb16⟩; go_wp2_with fail; go_must (refine (hf3 _ _ _ (Rd.ints3 (by simp) (by go_simp) (by go_simp) (by go_simp))).mono ?_)
   rintro e w17 ⟨rfl, hb17⟩; go_wp2; refine bodyPost_ret (v := .int .i64 E1) (by simp [results, Tryz.results128, go_sem]) rfl ?_
   exact ⟨by rw [HEF.out.1], by (repeat first|exact J0|assumption|(apply J1;assumption)|apply J2|apply J3|apply J4)⟩
  ·have t3 : (256 < (H1 : Int)) = False := eq_false h256
   rw [decide_eq_false h256] at hf3; clear h256; go_wp2_with fail; refine (Z8u _ 2 _).mono ?_
   rintro e w14 ⟨rfl, hb14⟩; go_wp2_with fail; refine (Z8u _ 12 _).mono ?_
   rintro e w15 ⟨rfl, hb15⟩; go_wp2_with fail; refine (Z8u _ 4 _).mono ?_
   rintro e w16 ⟨rfl, hb16⟩; go_wp2_with fail; go_must (refine (hf3 _ _ _ (Rd.ints3 (by simp) (by go_simp) (by go_simp) (by go_simp))).mono ?_)
   rintro e w17 ⟨rfl, hb17⟩; by_cases hz : E1 = 0
   ·have t1 : (E1 != 0) = false := by simp [hz]
    obtain ⟨q1, q2, q3⟩ := Zav (HE1.out.trans hz)
    have HEF : Hid (E = Z15 (Z73 O1 O2 (H1 + 1)) 16) := by
     unfold Hid; rw [HEE.out, if_neg (by simp [hz]), HH.out]
    clear hz hf3; obtain rfl : H2 = H1 := by have := HH.out; have := HR2.out; omega
    have hb1317 : Below w13.heap.size w13 w17 := by (repeat first|exact J0|assumption|(apply J1;assumption)|apply J2|apply J3|apply J4)
    replace hr8 := hr8.below hb1317
    replace hr9 := hr9.below hb1317
    have hbw17 : Below w.heap.size w w17 := Z08 hb1317 hbw13
    clear hb1317; clear hb14 hb15 hb16 hb17 hbw13; go_wp2_with fail; refine (Zeu O1 A8 c8 H2 _ ha1 (by omega) hr8 hlc8 hcm8 (fun h => by have := he1.out; rw [List.getElem?_eq_getElem h] at this; rw [Option.some.inj this])).mono ?_
    rintro e w18 ⟨v18, rfl, hO18, hb18⟩; go_wp2_with fail; refine (Zeu O2 A9 c9 H2 _ ha2 (by omega) (hr9.below (by (repeat first|exact J0|assumption|(apply J1;assumption)|apply J2|apply J3|apply J4))) hlc9 hcm9 (fun h => by have := he2.out; rw [List.getElem?_eq_getElem h] at this; rw [Option.some.inj this])).mono ?_
    rintro e w19 ⟨v19, rfl, hO19, hb19⟩; replace hO18 := hO18.below (show Below w18.heap.size w18 w19 by (repeat first|exact J0|assumption|(apply J1;assumption)|apply J2|apply J3|apply J4))
    have hbw19 : Below w.heap.size w w19 := Z08 (Z08 hb19 hb18) hbw17
    obtain ⟨b18, o18, c18, rfl, _, _, _⟩ := Zf1 hO18 (k := 0) (by omega)
    obtain ⟨b19, o19, c19, rfl, _, _, _⟩ := Zf1 hO19 (k := 0) (by omega)
    clear hbw17 hb18 hb19 hr8 hr9 hlc8 hlc9 hcm8 hcm9; go_wp2; go_loopw [70] (fun s wr => ∃ k : Nat, k ≤ H2 + 1 ∧ s = .int .i64 k ∧ Below w19.heap.size w19 wr ∧ Hid (Z73 O1 O2 k = false)) (fun s _ => H2 + 1 - (intOf s).toNat)
    case atStart => exact ⟨0, Nat.zero_le _, rfl, Z03, by simp [Hid, Z73]⟩
    case round =>
     obtain ⟨k, hk, rfl, hbk, HC⟩ := hrel; by_cases hlt : k < H2 + 1
     ·obtain ⟨_, _, _, hE1, hl18, _, p18⟩ := Zf1 (hO18.below hbk) hlt
      obtain ⟨_, _, _, hE2, hl19, p19, _⟩ := Zf1 (hO19.below hbk) hlt
      obtain ⟨⟨rfl, rfl⟩, _⟩ : (b18 = _ ∧ o18 = _) ∧ c18 = _ := by simpa using hE1
      obtain ⟨⟨rfl, rfl⟩, _⟩ : (b19 = _ ∧ o19 = _) ∧ c19 = _ := by simpa using hE2
      have n1 := Zf4 ha1 (k : Nat)
      have n2 := Zf4 ha2 (k : Nat)
      have HCA := Lib.hid (Zez O1 O2 k HC.out)
      have HCI := Lib.hid (Zf0 O1 O2 (H2 + 1) k hlt)
      obtain ⟨u, hu⟩ : ∃ u, (rchI O1 (k : Nat)).2 = u := ⟨_, rfl⟩
      obtain ⟨v, hv⟩ : ∃ u, (rchI O2 (k : Nat)).1 = u := ⟨_, rfl⟩
      rw [hu] at p18 n1 HCA HCI; rw [hv] at p19 n2 HCA HCI; clear hE1 hE2 hu hv; by_cases hx : v < u + 2
      ·have hEE : Hid (E = 16) := by unfold Hid; rw [HEF.out, HCI.out hx]; rfl
       go_upto_region 14 with fail; refine Z0z [0, 1, 2, 3, 4, 5, 6, 7, 8, 9, 10, 11] [] [] (by kernel_rfl) (by kernel_rfl) (fun d _ _ _ _ h => by cases d <;> exact h) ?_
       simp only [List.map_cons, List.map_nil, List.getD_cons_zero, List.getD_cons_succ]; repeat (go_big_quiet_step (fail))
       refine wpQuiet_nil ?_; refine Z10 ?_; go_wp2; refine bodyPost_ret (v := .int .i64 16) (by simp [results, Tryz.results128, go_sem]) rfl ?_
       exact ⟨by rw [hEE.out], by exact Z05 (Z08 hbk hbw19)⟩
      ·have HC1 : Hid (Z73 O1 O2 (k + 1) = false) := by unfold Hid; rw [HCA.out, decide_eq_false hx]
       go_upto_region 14 with fail; refine Z0z [0, 1, 2, 3, 4, 5, 6, 7, 8, 9, 10, 11] [] [] (by kernel_rfl) (by kernel_rfl) (fun d _ _ _ _ h => by cases d <;> exact h) ?_
       simp only [List.map_cons, List.map_nil, List.getD_cons_zero, List.getD_cons_succ]; repeat (go_big_quiet_step (fail))
       refine wpQuiet_nil ?_; refine Z10 ?_; go_wp2; go_roundw; case rel => exact ⟨k + 1, by omega, by go_num, Z05 hbk, HC1⟩
       case measure => simp [intOf]; omega
     ·obtain rfl : k = H2 + 1 := by omega
      have hEE : Hid (E = 0) := by unfold Hid; rw [HEF.out, HC.out]; rfl
      go_wp2; refine bodyPost_ret (v := .int .i64 0) (by simp [results, Tryz.results128, go_sem]) rfl ?_
      exact ⟨by rw [hEE.out], by exact Z08 hbk hbw19⟩
   ·have t1 : (E1 != 0) = true := by simp [hz]
    have HEF : Hid (E = E1) := by unfold Hid; rw [HEE.out, if_pos hz]
    clear hz; go_wp2; refine bodyPost_ret (v := .int .i64 E1) (by simp [results, Tryz.results128, go_sem]) rfl ?_
    exact ⟨by rw [HEF.out], by (repeat first|exact J0|assumption|(apply J1;assumption)|apply J2|apply J3|apply J4)⟩
 ·have t0 : (E0 != 0) = true := by simp [hz]
  have HEE : Hid (E = E0) := by
   unfold Hid; rw [← HE.out]; unfold panE; rw [HE0.out, if_pos hz]
  clear hz; go_wp2; refine bodyPost_ret (v := .int .i64 E0) (by simp [results, Tryz.results128, go_sem]) rfl ?_
  exact ⟨by rw [HEE.out], hbw7⟩
end Go.Proofs.YtpcgeihemkhkjaaGreatDoor

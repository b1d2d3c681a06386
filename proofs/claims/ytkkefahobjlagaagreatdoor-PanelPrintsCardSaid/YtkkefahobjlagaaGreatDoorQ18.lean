/- Rows that the call has made, cell by cell. Conditions: none. -/
import Derived.Test.YtkkefahobjlagaaGreatDoorQ17
import Derived.Laws.OwnMore
import Derived.Deep.OwnRows
namespace Go.Proofs.YtkkefahobjlagaaGreatDoor
open Go.RowKit Go.ChangeMaps
set_option maxHeartbeats 4000000
set_option maxRecDepth 100000
def rowG {α : Type} (enc : α → List Value) (n : Nat) (f : Nat → α) : Array Value := (((List.range n).map f).flatMap enc).toArray
section
variable {α : Type} {enc : α → List Value} {sz : Nat}
theorem flatG_len (hk : ∀ x, (enc x).length = sz) : ∀ l : List α, (l.flatMap enc).length = l.length * sz
 | [] => by simp
 | a :: r => by rw [List.flatMap_cons, List.length_append, flatG_len hk r, hk, List.length_cons, Nat.succ_mul, Nat.add_comm]
theorem flatG_get (hk : ∀ x, (enc x).length = sz) : ∀ (l : List α) (i j : Nat), j < sz → (l.flatMap enc)[i * sz + j]? = (l[i]?).bind fun x => (enc x)[j]?
 | [], i, j, _ => by simp
 | a :: r, 0, j, hj => by
  rw [List.flatMap_cons, Nat.zero_mul, Nat.zero_add, List.getElem?_append_left (by rw [hk]; exact hj)]
  rfl
 | a :: r, i + 1, j, hj => by
  rw [List.flatMap_cons, List.getElem?_append_right (by rw [hk, Nat.succ_mul]; omega), hk, show (i + 1) * sz + j - sz = i * sz + j by rw [Nat.succ_mul]; omega, flatG_get hk r i j hj]
  rfl
theorem flatG_set (hk : ∀ x, (enc x).length = sz) {u : Value} {x' : α} : ∀ (l : List α) (i j : Nat) (x : α), l[i]? = some x → j < sz → enc x' = (enc x).set j u → (l.flatMap enc).set (i * sz + j) u = (l.set i x').flatMap enc
 | [], i, j, x, h, _, _ => by simp at h
 | a :: r, 0, j, x, h, hj, he => by
  obtain rfl : a = x := by simpa using h
  rw [List.flatMap_cons, Nat.zero_mul, Nat.zero_add, List.set_append_left _ _ (by rw [hk]; exact hj), ← he]
  rfl
 | a :: r, i + 1, j, x, h, hj, he => by
  rw [List.flatMap_cons, List.set_append_right _ _ (by rw [hk, Nat.succ_mul]; omega), hk, show (i + 1) * sz + j - sz = i * sz + j by rw [Nat.succ_mul]; omega, flatG_set hk r i j x (by simpa using h) hj he]
  rfl
theorem rowG_size (hk : ∀ x, (enc x).length = sz) (n : Nat) (f : Nat → α) : (rowG enc n f).size = n * sz := by
 unfold rowG
 rw [List.size_toArray, flatG_len hk]
 simp
theorem rowG_get (hk : ∀ x, (enc x).length = sz) {n y j : Nat} (f : Nat → α) (hy : y < n) (hj : j < sz) : (rowG enc n f)[y * sz + j]? = (enc (f y))[j]? := by
 unfold rowG
 have := flatG_get hk ((List.range n).map f) y j hj
 have e : ((List.range n).map f)[y]? = some (f y) := by simp [hy]
 rw [e] at this
 simpa using this
theorem rowG_set (hk : ∀ x, (enc x).length = sz) {n y j : Nat} {u : Value} (f : Nat → α) (x' : α) (hy : y < n) (hj : j < sz) (he : enc x' = (enc (f y)).set j u) : (rowG enc n f).setIfInBounds (y * sz + j) u = rowG enc n (fun z => if z = y then x' else f z) := by
 unfold rowG
 have e : ((List.range n).map f)[y]? = some (f y) := by simp [hy]
 rw [List.setIfInBounds_toArray, flatG_set hk _ _ _ _ e hj he]
 congr 2
 apply List.ext_getElem
 ·simp
 ·intro i h1 h2
  simp only [List.getElem_set, List.getElem_map, List.getElem_range]
  by_cases h : y = i
  ·rw [if_pos h, if_pos h.symm]
  ·rw [if_neg h, if_neg (fun e => h e.symm)]
theorem made_rowG (hk : ∀ x, (enc x).length = sz) (z : α) (hs : 0 < sz) (n : Nat) : madeCells (enc z).toArray (n * sz) = rowG enc n fun _ => z := by
    apply Array.ext_getElem?
    intro i
    by_cases hi : i < n * sz
    · have h1 : i / sz < n := Nat.div_lt_of_lt_mul (by rw [Nat.mul_comm]; exact hi)
      have h2 : i % sz < sz := Nat.mod_lt _ hs
      have h3 : i / sz * sz + i % sz = i := by rw [Nat.mul_comm]; exact Nat.div_add_mod i sz
      have h4 := rowG_get hk (fun _ => z) h1 h2
      rw [h3] at h4
      rw [h4]
      have h5 : i % sz < (enc z).length := by rw [hk]; exact h2
      rw [Array.getElem?_eq_getElem (by rw [size_madeCells]; exact hi), List.getElem?_eq_getElem h5]
      simp only [madeCells, Array.getElem_map, Array.getElem_range, List.size_toArray, hk]
      rw [getElem!_pos (enc z).toArray (i % sz) (by simpa using h5)]
      simp
    · rw [Array.getElem?_eq_none (by rw [size_madeCells]; omega), Array.getElem?_eq_none (by rw [rowG_size hk]; omega)]
theorem run_make_rowG {P : Program} {t e : TypeId} {bytes : Nat} (E : Elem P t e sz bytes) (hk : ∀ x, (enc x).length = sz) (z : α) {v : Value} (hv : (P.info? e).bind (·.zero) = some v) (hc : v.cells = (enc z).toArray) (w : World) (n : Nat) (hn : n ≤ 1000000) (hb : bytes ≤ 1000) :
  (Instr.makeSlice t (.int .i64 (n : Int)) (.int .i64 (n : Int))).run P w = .ok (.slice (some ⟨w.heap.size, 0, none⟩) n n) (w.alloc (.cells (rowG enc n fun _ => z) e)) := by
 obtain ⟨hund, hrow, hpos⟩ := E
 obtain ⟨i, hi, hrow⟩ : ∃ i, P.info? e = some i ∧ (i.zero.map (fun z => z.cells.size), i.size, i.bytes) = (some sz, sz, bytes) := by
  cases h : P.info? e with
  | none => rw [h] at hrow; cases hrow
  | some i => rw [h] at hrow; exact ⟨i, rfl, Option.some.inj hrow⟩
 have h2 := congrArg (fun x => x.2.1) hrow
 have h3 := congrArg (fun x => x.2.2) hrow
 simp only at h2 h3
 rw [hi] at hv
 have hmul : bytes * n ≤ 1000 * 1000000 := Nat.mul_le_mul hb hn
 have hmul2 : (bytes : Int) * (n : Int) ≤ 1000000000 := by
  rw [← Int.natCast_mul]
  omega
 have := run_make (P := P) w t e i v hund hi hv .i64 .i64 n n (by omega) (Int.le_refl _) (by rw [h3]; exact Int.le_trans hmul2 (by decide)) (by omega)
 rw [this]
 simp only [Int.toNat_natCast, h2, hc, made_rowG hk z hpos]
theorem Blk.row {w : World} {g base : Nat} {e : TypeId} {n : Nat} {f : Nat → α} (h : Blk w g e (rowG enc n f)) (hk : ∀ x, (enc x).length = sz) (hb : base ≤ g) (hn : n ≤ 1000000) : Own enc sz base e w (.slice (some ⟨g, 0, none⟩) n n) ((List.range n).map f) := by
 have hl : ((List.range n).map f).length = n := by simp
 have hs : (((List.range n).map f).flatMap enc).length = n * sz := by rw [flatG_len hk, hl]
 exact ⟨by rw [flatG_len hk], .inr ⟨g, n, _, by rw [hl], hb, h, by rw [hl]; exact Nat.le_refl _, by unfold maxLen; omega, by simpa [rowG] using hs, by
  rw [hl]
  exact List.take_of_length_le (by simp [rowG, ← hs])⟩⟩
end
theorem make_pairs (w : World) (n : Nat) (hn : n ≤ 1000000) : (Instr.makeSlice 66 (.int .i64 (n : Int)) (.int .i64 (n : Int))).run Tryz.prog w = .ok (.slice (some ⟨w.heap.size, 0, none⟩) n n) (w.alloc (.cells (rowC n fun _ => (0, 0)) 73)) :=
 run_make_rowG pair_elem kc_len (0, 0) (v := .agg #[.int .i64 0, .int .i64 0]) (by kernel_rfl) rfl w n hn (by decide)
theorem make_strps (w : World) (n : Nat) (hn : n ≤ 1000000) : (Instr.makeSlice 63 (.int .i64 (n : Int)) (.int .i64 (n : Int))).run Tryz.prog w = .ok (.slice (some ⟨w.heap.size, 0, none⟩) n n) (w.alloc (.cells (rowG trc n fun _ => (0, 0, 0, 0)) 75)) :=
 run_make_rowG strp_elem trc_len (0, 0, 0, 0) (v := .agg #[.int .i64 0, .int .i64 0, .int .i64 0, .int .i64 0]) (by kernel_rfl) rfl w n hn (by decide)
end Go.Proofs.YtkkefahobjlagaaGreatDoor
namespace Go.Proofs.YtkkefahobjlagaaGreatDoor
open Go.RowKit Go.ChangeMaps
set_option maxHeartbeats 4000000
set_option maxRecDepth 100000
attribute [local go_sem] Oper.semAt_some
theorem tail_any {A : Option Addr} {c : Nat} {l : List Knot} {w : World} (h : Rd kc 2 w A l) (hlc : l.length ≤ c) (hc : c ≤ maxLen) (h1 : 1 ≤ l.length) :
  ∃ A1 c1, (∀ W, (Instr.slice 93 (.slice A l.length c) (some (.int .i64 1)) none none).run Tryz.prog W = .ok (.slice A1 (l.length - 1) c1) W) ∧ Rd kc 2 w A1 (l.drop 1) ∧ ∀ b off, A1 = some ⟨b, off, none⟩ → ∃ off', A = some ⟨b, off', none⟩ := by
 obtain ⟨A1, c1, he, _, _, hr⟩ := sl_post h hlc h1 hc
 refine ⟨A1, c1, fun W => ?_, hr, fun b off e => ?_⟩
 ·have hu : Tryz.prog.underlying 93 = some (.slice (Tryz.prog.elem 93)) := by kernel_rfl
  have hs : ∀ W, (sizeOf (Tryz.prog.elem 93)).run Tryz.prog W = .ok 2 W := fun W => by kernel_rfl
  rw [run_slice_l W 93 A l.length c hu .i64 1 (by omega) (by omega), hs]
  simp only [Result.andThen_ok, sliced]
  rw [List.length_drop] at he
  exact congrArg (fun v => Result.ok v W) he
 ·have h2 := (Value.slice.inj he).1
  rw [e] at h2
  obtain ⟨b0, off0, rfl, _, _, _⟩ := h.knot h1
  split at h2
  ·exact ⟨off, h2⟩
  ·simp only [Option.map_some, Addr.add, Option.some.injEq] at h2
   simp at h2
   exact ⟨off0, by rw [h2.1]⟩
theorem Rd.chgN {α : Type} {enc : α → List Value} {sz : Nat} {S : List Nat} {w w' : World} {A : Option Addr} {l : List α} (h : Rd enc sz w A l) (hc : Chg S w w') (hS : ∀ b off, A = some ⟨b, off, none⟩ → b ∉ S) : Rd enc sz w' A l := fun i x hx => by
 obtain ⟨b, off, e, hlt, hcell⟩ := h i x hx
 refine ⟨b, off, e, Nat.lt_of_lt_of_le hlt hc.size, fun j u hu => ?_⟩
 have h1 := hcell j u hu
 unfold World.cell? at h1 ⊢
 simp only at h1 ⊢
 rw [hc.block b hlt (hS b off e)]
 exact h1
theorem drop1_get {l : List Knot} {i : Nat} (h : i + 1 < l.length) : (l.drop 1)[i]'(by rw [List.length_drop]; omega) = l[i + 1] := by
 rw [List.getElem_drop]
 simp [Nat.add_comm]
theorem knot_nat {l : List Knot} (h : Asc l) {i : Nat} (hi : i < l.length) : ∃ (x : Int) (y : Nat), l[i] = (x, (y : Int)) ∧ -100000 ≤ x ∧ x ≤ 100000 ∧ y ≤ 100000 := by
 have h1 := h.nn hi
 have h2 := h.near i hi
 refine ⟨l[i].1, l[i].2.toNat, ?_, h2.1, h2.2.1, by omega⟩
 rw [Int.toNat_of_nonneg h1]
theorem reach_any (l : List Knot) (A : Option Addr) (c n : Nat) (w : World) (hA : Asc l) (hl : l.length ≤ 100000) (hr : Rd kc 2 w A l) (hlc : l.length ≤ c) (hcm : c ≤ maxLen) (hn : ∀ h : l.length - 1 < l.length, l[l.length - 1].2 = (n : Int)) :
  Calls Tryz.prog 123 #[.slice A l.length c] w (RG kc 2 73 w ((List.range (n + 1)).map fun y => rchI l (y : Nat))) := by
 have hne := hA.ne
 have HN := Lib.hid hn
 obtain ⟨tx, hlast, hn2⟩ : ∃ tx, l[l.length - 1]? = some (tx, (n : Int)) ∧ n ≤ 100000 := by
  have h1 : l.length - 1 < l.length := by omega
  have h2 := hn h1
  have h3 := (hA.near _ h1).2.2
  exact ⟨l[l.length - 1].1, by rw [List.getElem?_eq_getElem h1, ← h2], by omega⟩
 obtain ⟨x0, y0, hf0, hx0, hx0', _⟩ := knot_nat hA hne
 have HF0 : Hid (l[0]? = some (x0, (y0 : Int))) := by unfold Hid; rw [List.getElem?_eq_getElem hne, hf0]
 obtain ⟨A1, c1, hsl, hr1, _⟩ := tail_any hr hlc hcm hne
 obtain ⟨b, off, rfl, hbw0, k0, k1⟩ := hr.knot hne
 rw [hf0] at k0 k1
 simp only [Nat.zero_mul, Nat.add_zero] at k0 k1
 have hmk : ∀ W, (Instr.makeSlice 66 (.int .i64 ((n : Int) + 1)) (.int .i64 ((n : Int) + 1))).run Tryz.prog W = _ := fun W => make_pairs W (n + 1) (by omega)
 obtain ⟨m, hm⟩ : ∃ m, l.length - 1 = m := ⟨_, rfl⟩
 have hm1 : l.length ≤ m + 1 := by omega
 have hm2 : m + 1 ≤ l.length := by omega
 rw [hm] at hsl hlast
 have HL := Lib.hid hlast
 have HM := Lib.hid hm
 clear hn hlast hm hf0
 have ht := fun W h => top_any l (some ⟨b, off, none⟩) c W h (by omega) tx n (by have := HL.out; rw [HM.out]; exact this)
 go_enter Tryz.func123, Tryz.ntmps123
 go_wp2_with fail
 refine (ht _ hr).mono ?_
 rintro e w1 ⟨rfl, hb1⟩
 go_upto_region 3 with fail
 have hG := (Blk.new w1 73 (rowC (n + 1) fun _ => (0, 0))).alloc (.cells #[.slice (some ⟨w1.heap.size, 0, none⟩) (n + 1) (n + 1)] 66)
 have hB := Blk.new1 w1 (.cells (rowC (n + 1) fun _ => (0, 0)) 73) 66 #[.slice (some ⟨w1.heap.size, 0, none⟩) (n + 1) (n + 1)]
 obtain ⟨w2, hw2⟩ : ∃ X, (w1.alloc (.cells (rowC (n + 1) fun _ => (0, 0)) 73)).alloc (.cells #[.slice (some ⟨w1.heap.size, 0, none⟩) (n + 1) (n + 1)] 66) = X := ⟨_, rfl⟩
 have hb2 : Below w.heap.size w w2 := by rw [← hw2]; exact bl_alloc (bl_alloc hb1 _) _
 obtain ⟨g, hg⟩ : ∃ g, w1.heap.size = g := ⟨_, rfl⟩
 have hgw : w.heap.size ≤ g := by rw [← hg]; exact hb1.size
 rw [hw2, hg] at hG hB
 rw [hw2, hg]
 clear hw2 hg hb1 ht hmk
 have fB := hB.facts
 have hr2 := hr.below hb2
 obtain ⟨_, _, hE2, hbw2, q0, q1⟩ := hr2.knot hne
 obtain ⟨rfl, rfl⟩ : b = _ ∧ off = _ := by simpa using hE2
 clear hE2 k0 k1
 rw [show (l[0] : Knot) = (x0, (y0 : Int)) by have := HF0.out; rw [List.getElem?_eq_getElem hne] at this; exact Option.some.inj this] at q0 q1
 simp only [Nat.zero_mul, Nat.add_zero] at q0 q1
 go_wp2_with fail
 refine (putS_any (g + 1) g (n + 1) 0 (fun _ => (0, 0)) x0 _ hB hG (by omega)).mono ?_
 rintro e w3 ⟨rfl, hG3, hc3⟩
 have hb3 : Below w.heap.size w w3 := chg_bl hb2 hc3 hgw
 have hB3 := hB.chg hc3 (by simp)
 have HR0 : Hid (RchOk l 0 (putF (fun _ => (0, 0)) 0 x0 true)) := reach_start hA _ HF0.out
 obtain ⟨f0, hf0⟩ : ∃ f, putF (fun _ => (0, 0)) 0 x0 true = f := ⟨_, rfl⟩
 rw [hf0] at hG3 HR0
 clear hf0 q0 q1 fB hB hG hr2 hbw2
 go_wp2
 go_loopw [23] (fun s wr => ∃ (i : Nat) (f : Nat → Int × Int), i ≤ m ∧ s = .int .i64 i ∧ Blk wr g 73 (rowC (n + 1) f) ∧ Hid (RchOk l i f) ∧ Blk wr (g + 1) 66 #[.slice (some ⟨g, 0, none⟩) (n + 1) (n + 1)] ∧ Below w.heap.size w wr) (fun s _ => m - (intOf s).toNat)
 case atStart => exact ⟨0, f0, Nat.zero_le _, rfl, hG3, HR0, hB3, hb3⟩
 case round =>
  clear hG3 HR0 hB3 hb3 hc3 hb2
  obtain ⟨i, f, hi, rfl, hGi, HFi, hBi, hbi⟩ := hrel
  by_cases hlt : i < m
  ·have hi1 : i + 1 < l.length := by omega
   obtain ⟨xa, a, ha, _, _, _⟩ := knot_nat hA (show i < l.length by omega)
   obtain ⟨x, t, hx, hx1, hx2, hx3⟩ := knot_nat hA hi1
   have hat : a ≤ t := by have := hA.up i hi1; rw [ha, hx] at this; simpa using this
   have htn : t ≤ n := by
    have h1 := hA.le (show i + 1 ≤ m by omega) (by omega)
    have h2 := HL.out
    rw [List.getElem?_eq_getElem (by omega)] at h2
    rw [hx, Option.some.inj h2] at h1
    simpa using h1
   have HA0 : Hid (l[i]? = some (xa, (a : Int))) := by unfold Hid; rw [List.getElem?_eq_getElem (by omega), ha]
   have HA1 : Hid (l[i + 1]? = some (x, (t : Int))) := by unfold Hid; rw [List.getElem?_eq_getElem hi1, hx]
   obtain ⟨_, _, hEi, hbl, _, r1⟩ := (hr.below hbi).knot (show i < l.length by omega)
   obtain ⟨rfl, rfl⟩ : b = _ ∧ off = _ := by simpa using hEi
   obtain ⟨b1, off1, rfl, hbl1, s0, s1⟩ := (hr1.below hbi).knot (k := i) (by rw [List.length_drop]; omega)
   rw [drop1_get hi1, hx] at s0 s1
   rw [ha] at r1
   simp only at s0 s1 r1
   have hK := Blk.new wr 40 #[.int .i64 x, .int .i64 t]
   have hGk := hGi.alloc (.cells #[.int .i64 x, .int .i64 t] 40)
   have hBk := hBi.alloc (.cells #[.int .i64 x, .int .i64 t] 40)
   have hbk : Below w.heap.size w (wr.alloc (.cells #[.int .i64 x, .int .i64 t] 40)) := bl_alloc hbi _
   clear hEi ha hx
   go_upto_region 8 with fail
   obtain ⟨wk, hwk⟩ : ∃ X, wr.alloc (.cells #[.int .i64 x, .int .i64 t] 40) = X := ⟨_, rfl⟩
   obtain ⟨gk, hgk⟩ : ∃ X, wr.heap.size = X := ⟨_, rfl⟩
   have hgk' : g < gk := by rw [← hgk]; exact hGi.lt
   rw [hwk, hgk] at hK
   rw [hwk] at hGk hBk hbk
   rw [hwk, hgk]
   clear hwk hgk s0 s1 r1 hbl hbl1 hGi hBi hbi
   go_loopw [7] (fun s wq => ∃ y : Nat, a + 1 ≤ y ∧ y ≤ t + 1 ∧ s = .int .i64 y ∧ Blk wq g 73 (rowC (n + 1) (fillF f a y x)) ∧ Blk wq gk 40 #[.int .i64 x, .int .i64 t] ∧ Blk wq (g + 1) 66 #[.slice (some ⟨g, 0, none⟩) (n + 1) (n + 1)] ∧ Below w.heap.size w wq) (fun s _ => t + 1 - (intOf s).toNat)
   case atStart => exact ⟨a + 1, Nat.le_refl _, by omega, by go_num, by rw [fillF_start]; exact hGk, hK, hBk, hbk⟩
   case round =>
    clear hGk hBk hbk hK
    obtain ⟨y, hy1, hy2, rfl, hGy, hKy, hBy, hby⟩ := hrel
    have fK := hKy.facts
    by_cases hyt : y ≤ t
    ·go_wp2_with fail
     refine (putS_any (g + 1) g (n + 1) y (fillF f a y x) x _ hBy hGy (by omega)).mono ?_
     rintro e w5 ⟨rfl, hG5, hc5⟩
     rw [fillF_put (by omega)] at hG5
     have hK5 := hKy.chg hc5 (by simp; omega)
     have hB5 := hBy.chg hc5 (by simp)
     have hb5 := chg_bl hby hc5 hgw
     go_wp2
     go_roundw
     case rel => exact ⟨y + 1, by omega, by omega, by go_num, hG5, hK5, hB5, hb5⟩
     case measure => simp [intOf]; omega
    ·obtain rfl : y = t + 1 := by omega
     go_wp2_with fail
     refine (putR_any (g + 1) g (n + 1) t (fillF f a (t + 1) x) x _ hBy hGy (by omega)).mono ?_
     rintro e w5 ⟨rfl, hG5, hc5⟩
     have HR5 : Hid (RchOk l (i + 1) (putF (fillF f a (t + 1) x) t x false)) := reach_step hA HA0.out HA1.out HFi.out
     have hB5 := hBy.chg hc5 (by simp)
     have hb5 := chg_bl hby hc5 hgw
     go_wp2
     go_roundw
     case rel => exact ⟨i + 1, _, by omega, by go_num, hG5, HR5, hB5, hb5⟩
     case measure => simp [intOf]; omega
  ·obtain rfl : i = m := by omega
   have HE : Hid ((List.range (n + 1)).map f = (List.range (n + 1)).map fun y => rchI l (y : Nat)) := reach_end (by omega) HFi.out HL.out
   have fB := hBi.facts
   go_wp2
   go_ret
   exact ⟨_, rfl, by rw [← HE.out]; exact hGi.row kc_len hgw (by omega), hbi⟩
end Go.Proofs.YtkkefahobjlagaaGreatDoor

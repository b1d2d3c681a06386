/- Lists joined, walked. Conditions: bounds. -/
import Derived.Test.YtkkefahobjlagaaGreatDoorQ22
import Derived.Test.YtkkefahobjlagaaGreatDoorQ06
import Derived.Laws.CopyRow
import Derived.Shelf.SlicesQ.Reverse
import Derived.Shelf.SlicesE.Reverse
import Derived.Shelf.SlicesE.Clone
namespace Go.Proofs.YtkkefahobjlagaaGreatDoor
open Go.RowKit Go.ChangeMaps
set_option maxHeartbeats 4000000
set_option maxRecDepth 100000
attribute [local go_sem] Oper.semAt_some
open Go.Sort Go.Shelf
section
variable {α : Type} {enc : α → List Value} {sz bytes : Nat} {P : Program} {t e : TypeId} {w : World}
theorem run_cp_at (E : Elem P t e sz bytes) (henc : ∀ x, (enc x).length = sz) (hone : ∀ x, ∀ u ∈ enc x, u.oneCell' = true) (ty : TypeId) {g : Nat} {cs : Array Value} (hB : Blk w g e cs) (k m mc : Nat) (u : Value) (r : List α) (ad : Addr) (hu : Sl enc sz w u r) (had : r ≠ [] → ad = ⟨g, k, none⟩) (hfit : k + r.length * sz ≤ cs.size) (hm : r.length ≤ m) :
  ∃ w', (Builtin.copy_ #[t, t] ty #[.slice (some ad) m mc, u]).run P w = .ok (goInt r.length) w' ∧ Blk w' g e (cs.toList.take k ++ r.flatMap enc ++ cs.toList.drop (k + r.length * sz)).toArray ∧ Chg [g] w w' := by
 obtain ⟨hund, hrow, hpos⟩ := E
 obtain ⟨i, hi, hrow⟩ : ∃ i, P.info? e = some i ∧ (i.zero.map (fun z => z.cells.size), i.size, i.bytes) = (some sz, sz, bytes) := by
  cases h : P.info? e with
  | none => rw [h] at hrow; cases hrow
  | some i => rw [h] at hrow; exact ⟨i, rfl, Option.some.inj hrow⟩
 have h2 := congrArg (fun x => x.2.1) hrow
 simp only at h2
 obtain ⟨A, c, rfl, hlc, hcm, hr⟩ := hu
 have hfl : (r.flatMap enc).length = r.length * sz := flatG_len henc r
 have hmin : r.length.min m = r.length := Nat.min_eq_left hm
 by_cases hr0 : r = []
 ·subst hr0
  refine ⟨w, ?_, by simpa using hB, Chg.refl⟩
  cases A with
  | none => simp [Builtin.copy_, run_underlying hund, sizeOf, typeInfo, hi, Builtin.lenOf, Builtin.firstCells, storeCells]
  | some a =>
   have hl0 : (loadCells a 0).run P w = .ok #[] w := by simpa using run_loadCells_list (P := P) w a [] (fun j u h => by simp at h)
   simp [Builtin.copy_, run_underlying hund, sizeOf, typeInfo, hi, Builtin.lenOf, Builtin.firstCells, hl0, storeCells]
 ·obtain rfl := had hr0
  have h0 : 0 < r.length := by cases r with | nil => exact absurd rfl hr0 | cons => simp
  obtain ⟨b, off, rfl, _, _⟩ := hr 0 _ (List.getElem?_eq_getElem h0)
  have hsrc : ∀ j u, (r.flatMap enc)[j]? = some u → w.cell? ((⟨b, off, none⟩ : Addr).add j) = some u := by
   intro j u hj
   have hjl : j < r.length * sz := by rw [← hfl]; exact (List.getElem?_eq_some_iff.1 hj).1
   have hk : j / sz < r.length := Nat.div_lt_of_lt_mul (by rw [Nat.mul_comm]; exact hjl)
   obtain ⟨b', off', he, hbl, hc⟩ := hr (j / sz) r[j / sz] (List.getElem?_eq_getElem hk)
   obtain ⟨rfl, rfl⟩ : b = b' ∧ off = off' := by simpa using he
   have hm' : j % sz < sz := Nat.mod_lt _ hpos
   have hj' := flatG_get henc r (j / sz) (j % sz) hm'
   have hdm : j / sz * sz + j % sz = j := by rw [Nat.mul_comm]; exact Nat.div_add_mod j sz
   rw [hdm, hj, List.getElem?_eq_getElem hk] at hj'
   have hcj := hc (j % sz) u (by simpa using hj'.symm)
   rw [Nat.add_assoc, hdm] at hcj
   unfold Addr.add
   split
   ·rename_i h0
    subst h0
    exact hcj
   ·exact hcj
  have hl := run_loadCells_list (P := P) w ⟨b, off, none⟩ (r.flatMap enc) hsrc
  rw [hfl] at hl
  have h1 : ∀ u ∈ r.flatMap enc, u.oneCell' = true := by
   intro u hu
   obtain ⟨x, hx, hux⟩ := List.mem_flatMap.1 hu
   exact hone x u hux
  have hst := run_storeCells_at P g k e (r.flatMap enc) 0 cs w hB (by rw [hfl]; omega) h1
  rw [Nat.add_zero, hfl] at hst
  refine ⟨w.setRow g (cs.toList.take k ++ r.flatMap enc ++ cs.toList.drop (k + r.length * sz)).toArray, ?_, setRow_heap w g cs _ e _ hB, ?_⟩
  ·simp [Builtin.copy_, run_underlying hund, sizeOf, typeInfo, hi, h2, Builtin.lenOf, Builtin.firstCells, hmin, hl, hst]
  ·exact ⟨rfl, rfl, rfl, by simp [World.setRow], fun k' hk hne => setRow_other w g k' _ (fun e => hne (by simp [e]))⟩
theorem Blk.rowL_ {g base : Nat} {l : List α} {n : Nat} (h : Blk w g e (l.flatMap enc).toArray) (hk : ∀ x, (enc x).length = sz) (hn : l.length = n) (hb : base ≤ g) (hl : n ≤ 1000000) : Own enc sz base e w (.slice (some ⟨g, 0, none⟩) n n) l := by
 subst hn
 exact ⟨flatG_len hk l, .inr ⟨g, l.length, _, rfl, hb, h, Nat.le_refl _, by unfold maxLen; omega, by rw [List.size_toArray, flatG_len hk], by rw [← flatG_len hk l]; exact List.take_length⟩⟩
end
theorem make_edges (w : World) (n : Nat) (hn : n ≤ 1000000) : (Instr.makeSlice 28 (.int .i64 (n : Int)) (.int .i64 (n : Int))).run Tryz.prog w = .ok (.slice (some ⟨w.heap.size, 0, none⟩) n n) (w.alloc (.cells (rowG ec n fun _ => ([], 0, false)) 107)) :=
 run_make_rowG edge_elem ec_len ([], 0, false) (v := .agg #[.string ⟨#[]⟩, .int .i64 0, .bool false]) (by kernel_rfl) rfl w n hn (by decide)
theorem joined_any {vA vB : Value} (a b : List Edg) (w : World) (hA : SlE w vA a) (hB : SlE w vB b) (ha : a.length ≤ 1000) (hb : b.length ≤ 1000) :
  Calls Tryz.prog 73 #[vA, vB] w (RG ec 3 107 w (a ++ b)) := by
 obtain ⟨n, hn⟩ : ∃ n, a.length + b.length = n := ⟨_, rfl⟩
 have hmk : ∀ W, (Instr.makeSlice 28 (.int .i64 ((a.length : Int) + (b.length : Int))) (.int .i64 ((a.length : Int) + (b.length : Int)))).run Tryz.prog W = .ok (.slice (some ⟨W.heap.size, 0, none⟩) n n) (W.alloc (.cells (rowG ec n fun _ => ([], 0, false)) 107)) := fun W => by
  rw [show (a.length : Int) + (b.length : Int) = (n : Int) by rw [← hn]; push_cast; rfl]
  exact make_edges W n (by omega)
 have hZ := Blk.new w 107 (rowG ec n fun _ => ([], 0, false))
 have hzs : (rowG ec n fun _ => (([], 0, false) : Edg)).size = n * 3 := rowG_size ec_len n _
 obtain ⟨w1, hw1⟩ : ∃ X, w.alloc (.cells (rowG ec n fun _ => ([], 0, false)) 107) = X := ⟨_, rfl⟩
 have hb1 : Below w.heap.size w w1 := by rw [← hw1]; exact bl_alloc bl_refl _
 rw [hw1] at hZ
 obtain ⟨w2, hr2, hZ2, hc2⟩ := run_cp_at (P := Tryz.prog) edge_elem ec_len ec_one 3 hZ 0 n n vA a ⟨w.heap.size, 0, none⟩ (hA.below hb1) (fun _ => rfl) (by rw [hzs]; omega) (by omega)
 have hb2 : Below w.heap.size w w2 := chg_bl hb1 hc2 (Nat.le_refl _)
 obtain ⟨X, hX⟩ : ∃ X, ((rowG ec n fun _ => (([], 0, false) : Edg)).toList.take 0 ++ a.flatMap ec ++ (rowG ec n fun _ => (([], 0, false) : Edg)).toList.drop (0 + a.length * 3)).toArray = X := ⟨_, rfl⟩
 rw [hX] at hZ2
 have hal : (a.flatMap ec).length = a.length * 3 := flatG_len ec_len a
 have hXl : X.toList = a.flatMap ec ++ (rowG ec n fun _ => (([], 0, false) : Edg)).toList.drop (a.length * 3) := by rw [← hX]; simp
 have hz2s : X.size = n * 3 := by
  have h0 : (rowG ec n fun _ => (([], 0, false) : Edg)).toList.length = n * 3 := by rw [Array.length_toList]; exact hzs
  have h1 : X.toList.length = n * 3 := by
   rw [hXl, List.length_append, hal, List.length_drop, h0]
   omega
  exact h1
 obtain ⟨ad, hsl, had⟩ : ∃ ad : Addr, (∀ W, (Instr.slice 28 (.slice (some ⟨w.heap.size, 0, none⟩) n n) (some (.int .i64 (a.length : Int))) none none).run Tryz.prog W = .ok (.slice (some ad) (n - a.length) (n - a.length)) W) ∧ (b ≠ [] → ad = ⟨w.heap.size, a.length * 3, none⟩) := by
  refine ⟨if n = a.length then ⟨w.heap.size, 0, none⟩ else (⟨w.heap.size, 0, none⟩ : Addr).add (a.length * 3), fun W => ?_, fun hne => ?_⟩
  ·have hu : Tryz.prog.underlying 28 = some (.slice (Tryz.prog.elem 28)) := by kernel_rfl
   have hs : ∀ W, (sizeOf (Tryz.prog.elem 28)).run Tryz.prog W = .ok 3 W := fun W => by kernel_rfl
   rw [run_slice_l W 28 _ n n hu .i64 _ (by omega) (by omega), hs]
   simp only [Result.andThen_ok, sliced, Int.toNat_natCast]
   split <;> rfl
  ·have : 0 < b.length := by cases b with | nil => exact absurd rfl hne | cons => simp
   rw [if_neg (by omega)]
   unfold Addr.add
   split
   ·rename_i h0
    rw [h0]
   ·simp
 obtain ⟨w3, hr3, hZ3, hc3⟩ := run_cp_at (P := Tryz.prog) edge_elem ec_len ec_one 3 hZ2 (a.length * 3) (n - a.length) (n - a.length) vB b ad (hB.below hb2) had (by rw [hz2s]; omega) (by omega)
 have hb3 : Below w.heap.size w w3 := chg_bl hb2 hc3 (Nat.le_refl _)
 have hfin : X.toList.take (a.length * 3) ++ b.flatMap ec ++ X.toList.drop (a.length * 3 + b.length * 3) = (a ++ b).flatMap ec := by
  have h1 : X.toList.drop (a.length * 3 + b.length * 3) = [] := List.drop_eq_nil_of_le (by rw [Array.length_toList]; omega)
  have h2 : X.toList.take (a.length * 3) = a.flatMap ec := by
   rw [hXl, ← hal]
   exact List.take_left
  rw [h1, h2, List.flatMap_append, List.append_nil]
 rw [hfin] at hZ3
 obtain ⟨AA, cA, rfl, _, _, _⟩ := hA
 obtain ⟨AB, cB, rfl, _, _, _⟩ := hB
 have HN := Lib.hid hn
 have hbl : a.length + b.length ≤ 2000 := by omega
 clear hn hfin hz2s had hZ2 hZ hzs hX hXl hal
 go_enter Tryz.func73, Tryz.ntmps73
 go_wp2
 go_ret
 exact ⟨_, rfl, hZ3.rowL_ ec_len (by rw [List.length_append]; exact HN.out) (Nat.le_refl _) (by have := HN.out; omega), hb3⟩
theorem cloneE_any {v : Value} (l : List Edg) (w : World) (h : SlE w v l) (hlen : l.length ≤ 100000) : Calls Tryz.prog 85 #[v] w (RG ec 3 107 w l) := by
 obtain ⟨A, c, rfl, hlc, hcm, hr⟩ := h
 cases A with
 | none =>
  have hl : l = [] := by
   cases l with
   | nil => rfl
   | cons x r =>
    obtain ⟨b, off, he, _⟩ := hr 0 x rfl
    cases he
  subst hl
  have heq : ∀ W, (binOp .eql 28 (.slice none 0 c) (.slice none 0 0)).run Tryz.prog W = .ok (.bool true) W := fun W => Lib.run_eql_slice_nil (P := Tryz.prog) W 28 107 none 0 c 0 0 Tryz.underlying28
  go_enter Tryz.func85, Tryz.ntmps85
  go_wp2
  go_ret
  exact ⟨_, rfl, Own.nil_, by (repeat first|exact J0|assumption|(apply J1;assumption)|apply J2|apply J3|apply J4)⟩
 | some a =>
  have h : SlE w (.slice (some a) l.length c) l := ⟨some a, c, rfl, hlc, hcm, hr⟩
  clear hr
  have heq : ∀ W, (binOp .eql 28 (.slice (some a) l.length c) (.slice none 0 0)).run Tryz.prog W = .ok (.bool false) W := fun W => Lib.run_eql_slice_nil (P := Tryz.prog) W 28 107 (some a) l.length c 0 0 Tryz.underlying28
  go_enter Tryz.func85, Tryz.ntmps85
  go_wp2_with (at_builtin; refine wpList_app rfl edge_elem ec_len ec_one _ _ rfl w.heap.size _ _ [] l rfl rfl (Own.empty ec 3 w _) (h.alloc _) (by simp [maxLen]; omega) (by simp; omega) (by simp) ?_; intro v2 w2 hown2 hgr2)
  have hb2 : Below w.heap.size w w2 := bl_grown hgr2 (bl_alloc bl_refl _) fun k hk => ((Own.empty ec 3 w 107).lt k hk).1
  go_ret
  exact ⟨_, rfl, by simpa using hown2, hb2⟩
def yc (c : UInt8) : List Value := [.int .u8 c.toNat]
theorem yc_len (c : UInt8) : (yc c).length = 1 := rfl
theorem yc_one (b : UInt8) : ∀ u ∈ yc b, u.oneCell' = true := by intro u hu; simp [yc] at hu; rcases hu with rfl; rfl
theorem reverseE_any {v : Value} {base : Nat} (l : List Edg) (w : World) (h : Own ec 3 base 107 w v l) (hlen : l.length ≤ 100000) :
  Calls Tryz.prog 173 #[v] w fun e w' => e = .returned (.tuple #[]) ∧ Own ec 3 base 107 w' v l.reverse ∧ w.grownBy w' v.ownBlock := by
 obtain ⟨A, c, rfl⟩ := h.shape
 cases A with
 | none =>
  have hl : l = [] := by
   obtain ⟨_, _, he, _, _, hr⟩ := h.rd ec_len
   cases l with
   | nil => rfl
   | cons x r =>
    obtain ⟨b, off, e, _⟩ := hr 0 x rfl
    rw [e] at he
    simp at he
  subst hl
  refine (AnyQ.slices_Reverse_empty (P := Tryz.prog) lay_reverseE none c w).mono ?_
  rintro e w' ⟨rfl, rfl⟩
  exact ⟨rfl, h, World.grownBy.refl _ _⟩
 | some a =>
  have hg : ∃ g, a = ⟨g, 0, none⟩ := by
   rcases h.2 with ⟨hv, _⟩ | ⟨g, cap, cur, hv, _⟩
   ·cases hv
   ·exact ⟨g, by simpa using (Value.slice.inj hv).1⟩
  obtain ⟨g, rfl⟩ := hg
  have hH := (own_holds ec_len h).1
  have hs := own_sorted ec_len h (l' := l.reverse) (by simp)
  refine (AnyQ.slices_Reverse (P := Tryz.prog) lay_reverseE 3 (fun w => by kernel_rfl) (fun w => by kernel_rfl) ec ec_len ec_one g 0 c l.toArray w hH (by simp; omega)).mono ?_
  rintro e w' ⟨rfl, n, rfl⟩
  have hs2 := hs n #[]
  have e : sortWorldK ec 3 w g 0 n l.reverse.toArray #[] = putRowK ec 3 (Sort.ahead w n) g 0 l.toArray.reverse := by
   unfold sortWorldK grow
   simp
  rw [e] at hs2
  exact ⟨rfl, hs2.1, hs2.2⟩
theorem holds_one {α : Type} [Inhabited α] {f : α → Value} {enc : α → List Value} (hf : ∀ x, enc x = [f x]) (w : World) (g o : Nat) (d : Array α) : HoldsK enc 1 w g o d ↔ Holds f w g o d := by
 have hfl : flatK enc 1 d = d.map f := by
  apply Array.ext
  ·simp [flatK]
  ·intro i h1 h2
   have hi : i < d.size := by simpa using h2
   have := get_flatK enc 1 d i (by simpa using hi)
   rw [getElem!_pos _ i (by simpa [flatK] using hi)] at this
   rw [this]
   simp [hf, Nat.mod_one, hi]
 unfold HoldsK
 rw [hfl]
 constructor
 ·intro h j hj
  have := h j (by simpa using hj)
  simp only [id_eq] at this
  rw [getElem!_pos _ j (by simpa using hj)] at this
  rw [getElem!_pos d j hj]
  simpa using this
 ·intro h j hj
  have hj' : j < d.size := by simpa using hj
  have := h j hj'
  rw [getElem!_pos d j hj'] at this
  simp only [id_eq]
  rw [getElem!_pos _ j hj]
  simpa using this
theorem flatK_one {α : Type} [Inhabited α] {f : α → Value} {enc : α → List Value} (hf : ∀ x, enc x = [f x]) (d : Array α) : flatK enc 1 d = d.map f := by
 apply Array.ext
 ·simp [flatK]
 ·intro i h1 h2
  have hi : i < d.size := by simpa using h2
  have := get_flatK enc 1 d i (by simpa using hi)
  rw [getElem!_pos _ i (by simpa [flatK] using hi)] at this
  rw [this]
  simp [hf, Nat.mod_one, hi]
theorem putRow_one {α : Type} [Inhabited α] {f : α → Value} {enc : α → List Value} (hf : ∀ x, enc x = [f x]) (w : World) (g o : Nat) (d : Array α) : putRowK enc 1 w g o d = putRow f w g o d := by
 unfold putRowK
 rw [flatK_one hf]
 unfold putRow
 congr 1
 funext cs
 unfold putCells
 congr 1
 funext k x
 rw [Array.size_map]
 split
 ·rename_i h
  simp only [id_eq]
  rw [getElem!_pos (d.map f) (k - o) (by rw [Array.size_map]; omega), getElem!_pos d (k - o) (by omega)]
  simp
 ·rfl
def yv (c : UInt8) : Value := .int .u8 c.toNat
theorem yc_yv (c : UInt8) : yc c = [yv c] := rfl
theorem reverseY_any {base g c : Nat} (l : List UInt8) (w : World) (h : Own yc 1 base 5 w (.slice (some ⟨g, 0, none⟩) l.length c) l) (hlen : l.length ≤ 100000) :
  Calls Tryz.prog 175 #[.slice (some ⟨g, 0, none⟩) l.length c] w fun e w' => e = .returned (.tuple #[]) ∧ Own yc 1 base 5 w' (.slice (some ⟨g, 0, none⟩) l.length c) l.reverse ∧ w.grownBy w' (some g) := by
 have hH := (own_holds yc_len h).1
 have hs := own_sorted yc_len h (l' := l.reverse) (by simp)
 refine (AnyE.slices_Reverse (P := Tryz.prog) lay_reverseY yv (fun _ => rfl) g 0 c l w ((holds_one yc_yv w g 0 l.toArray).1 hH) (by omega)).mono ?_
 rintro e w' ⟨rfl, n, rfl⟩
 have hs2 := hs n #[]
 have e : sortWorldK yc 1 w g 0 n l.reverse.toArray #[] = putRow yv (Sort.ahead w n) g 0 l.reverse.toArray := by
  unfold sortWorldK grow
  rw [putRow_one yc_yv, Array.append_empty]
 rw [e] at hs2
 exact ⟨rfl, hs2.1, hs2.2⟩
theorem cloneY_any (b off c : Nat) (l : List UInt8) (w : World) (hr : Rd yc 1 w (some ⟨b, off, none⟩) l) (hlen : l.length ≤ 100000) :
  Calls Tryz.prog 174 #[.slice (some ⟨b, off, none⟩) l.length c] w fun e w' => ∃ g c', e = .returned (.slice (some ⟨g, 0, none⟩) l.length c') ∧ Own yc 1 w.heap.size 5 w' (.slice (some ⟨g, 0, none⟩) l.length c') l ∧ Below w.heap.size w w' := by
 obtain ⟨i, hi⟩ : ∃ i, Tryz.prog.info? 5 = some i := ⟨_, rfl⟩
 obtain ⟨z, hz, hzs⟩ : ∃ z, i.zero = some z ∧ z.cells.size = 1 := by
  have : (Tryz.prog.info? 5).bind (·.zero) = some (.int .u8 0) := by kernel_rfl
  rw [hi] at this
  exact ⟨_, this, rfl⟩
 have hsb : i.size = 1 ∧ i.bytes = 1 := by
  have h1 : (Tryz.prog.info? 5).map (fun i => (i.size, i.bytes)) = some (1, 1) := by kernel_rfl
  rw [hi] at h1
  simpa using h1
 have hfl : (l.flatMap yc).length = l.length * 1 := flatG_len yc_len l
 refine (AnyE.slices_Clone (P := Tryz.prog) lay_cloneY i z 1 1 hi hz hsb.1 hsb.2 hzs (by decide) (fun w => by kernel_rfl) b off l.length c (l.flatMap yc) w hfl (by unfold maxLen; omega) (by omega) ?_ ?_).mono ?_
 ·intro j u hj
  have hjl : j < l.length := by have := (List.getElem?_eq_some_iff.1 hj).1; omega
  have h2 := flatG_get yc_len l j 0 (by decide)
  simp only [Nat.mul_one, Nat.add_zero] at h2
  rw [hj, List.getElem?_eq_getElem hjl] at h2
  obtain ⟨b', off', e, _, hc⟩ := hr j _ (List.getElem?_eq_getElem hjl)
  obtain ⟨rfl, rfl⟩ : b = b' ∧ off = off' := by simpa using e
  have := hc 0 u (by simpa using h2.symm)
  simpa using this
 ·intro u hu
  obtain ⟨x, hx, hux⟩ := List.mem_flatMap.1 hu
  exact yc_one x u hux
 ·rintro e w' ⟨v', rfl, ho, hne, hb⟩
  have hO : Own yc 1 w.heap.size 5 w' v' l := ho
  rcases hO.2 with ⟨hv, _⟩ | ⟨g, cap, cur, hv, _⟩
  ·exact absurd hv hne
  ·subst hv
   exact ⟨g, cap, rfl, hO, hb⟩
def RYr (w : World) (l : List UInt8) (e : Ending) (w' : World) : Prop := ∃ g c', e = .returned (.slice (some ⟨g, 0, none⟩) l.length c') ∧ Rd yc 1 w' (some ⟨g, 0, none⟩) l ∧ Below w.heap.size w w'
theorem reversedY_any (b off c : Nat) (l : List UInt8) (w : World) (hr : Rd yc 1 w (some ⟨b, off, none⟩) l) (hlen : l.length ≤ 100000) :
  Calls Tryz.prog 142 #[.slice (some ⟨b, off, none⟩) l.length c] w (RYr w l.reverse) := by
 go_enter Tryz.func142, Tryz.ntmps142
 go_wp2_with fail
 refine (cloneY_any b off c l _ hr hlen).mono ?_
 rintro e w2 ⟨g, c', rfl, hO, hb2⟩
 go_wp2_with fail
 refine (reverseY_any l _ hO hlen).mono ?_
 rintro e w3 ⟨rfl, hO3, hg3⟩
 have hb3 : Below w.heap.size w w3 := bl_grown hg3 hb2 (fun k e => (hO.lt k e).1)
 go_wp2
 go_ret
 refine ⟨g, c', by rw [List.length_reverse]; rfl, ?_, hb3⟩
 obtain ⟨_, _, he, _, _, hr3⟩ := hO3.rd yc_len
 obtain ⟨⟨rfl, _⟩, _⟩ := by simpa using he
 exact hr3
theorem reversedE_any {v : Value} (l : List Edg) (w : World) (h : SlE w v l) (hlen : l.length ≤ 100000) : Calls Tryz.prog 141 #[v] w (RG ec 3 107 w l.reverse) := by
 obtain ⟨A, c, rfl, hlc, hcm, hr⟩ := h
 go_enter Tryz.func141, Tryz.ntmps141
 go_wp2_with fail
 refine (cloneE_any l _ ⟨A, c, rfl, hlc, hcm, hr⟩ hlen).mono ?_
 rintro e w2 ⟨v2, rfl, hO, hb2⟩
 go_wp2_with fail
 refine (reverseE_any l _ hO hlen).mono ?_
 rintro e w3 ⟨rfl, hO3, hg3⟩
 have hb3 : Below w.heap.size w w3 := bl_grown hg3 hb2 (fun k e => (hO.lt k e).1)
 go_wp2
 go_ret
 exact ⟨_, rfl, hO3, hb3⟩
def rowT {α : Type} (enc : α → List Value) (l : List α) (tail : List Value) : Array Value := (l.flatMap enc ++ tail).toArray
section
variable {α : Type} {enc : α → List Value} {sz base g c n : Nat} {e : TypeId} {w : World}
theorem own_rowT (hk : ∀ x, (enc x).length = sz) {l : List α} (h : Own enc sz base e w (.slice (some ⟨g, 0, none⟩) n c) l) :
    l.length = n ∧ base ≤ g ∧ ∃ tail, Blk w g e (rowT enc l tail) ∧ ∀ w' l', l'.length = l.length → Blk w' g e (rowT enc l' tail) → Own enc sz base e w' (.slice (some ⟨g, 0, none⟩) n c) l' := by
  obtain ⟨hl, hc⟩ := h
  rcases hc with ⟨hv, _⟩ | ⟨g', cap, cur, hv, hg, hh, hnc, hcm, hcs, htk⟩
  · cases hv
  · obtain ⟨h1, h2, h3⟩ := Value.slice.inj hv
    obtain rfl : g = g' := by simpa using h1
    subst h2 h3
    have ht : cur.toList = l.flatMap enc ++ cur.toList.drop (l.length * sz) := by
      rw [← htk]
      exact (List.take_append_drop _ _).symm
    refine ⟨rfl, hg, cur.toList.drop (l.length * sz), ?_, ?_⟩
    · unfold rowT
      rw [← ht]
      simpa [Blk] using hh
    · intro w' l' hl' hB
      refine ⟨flatG_len hk l', .inr ⟨g, _, _, by rw [hl'], hg, hB, by omega, hcm, ?_, ?_⟩⟩
      · have hsz : cur.size = (l.flatMap enc).length + (cur.toList.drop (l.length * sz)).length := by
          rw [← List.length_append, ← ht, Array.length_toList]
        unfold rowT
        have h9 := flatG_len hk l
        rw [List.size_toArray, List.length_append, flatG_len hk, hl']
        omega
      · unfold rowT
        rw [List.toList_toArray, hl', ← hl', ← flatG_len hk l']
        exact List.take_left
theorem rowT_get (hk : ∀ x, (enc x).length = sz) {l : List α} (tail : List Value) {i j : Nat} {x : α} (hx : l[i]? = some x) (hj : j < sz) : (rowT enc l tail)[i * sz + j]? = (enc x)[j]? := by
 have hi : i < l.length := (List.getElem?_eq_some_iff.1 hx).1
 have hlt : i * sz + j < (l.flatMap enc).length := by
  rw [flatG_len hk]
  have := Nat.mul_le_mul_right sz (show i + 1 ≤ l.length by omega)
  rw [Nat.succ_mul] at this
  omega
 unfold rowT
 rw [List.getElem?_toArray, List.getElem?_append_left hlt, flatG_get hk l i j hj, hx]
 rfl
theorem rowT_set (hk : ∀ x, (enc x).length = sz) {l : List α} (tail : List Value) {i j : Nat} {u : Value} {x : α} (x' : α) (hx : l[i]? = some x) (hj : j < sz) (he : enc x' = (enc x).set j u) : (rowT enc l tail).setIfInBounds (i * sz + j) u = rowT enc (l.set i x') tail := by
 have hi : i < l.length := (List.getElem?_eq_some_iff.1 hx).1
 have hlt : i * sz + j < (l.flatMap enc).length := by
  rw [flatG_len hk]
  have := Nat.mul_le_mul_right sz (show i + 1 ≤ l.length by omega)
  rw [Nat.succ_mul] at this
  omega
 unfold rowT
 rw [List.setIfInBounds_toArray, List.set_append_left _ _ hlt, flatG_set hk l i j x hx hj he]
theorem rowT_size (hk : ∀ x, (enc x).length = sz) (l : List α) (tail : List Value) : (rowT enc l tail).size = l.length * sz + tail.length := by
 unfold rowT
 rw [List.size_toArray, List.length_append, flatG_len hk]
end
def oppE (e : Edg) : Edg := (e.1.reverse, e.2.1, !e.2.2)
def oppL (l : List Edg) : List Edg := l.reverse.map oppE
def mixL (l : List Edg) (k : Nat) : List Edg := (l.take k).map oppE ++ l.drop k
theorem mixL_len (l : List Edg) {k : Nat} (hk : k ≤ l.length) : (mixL l k).length = l.length := by unfold mixL; simp; omega
theorem mixL_get (l : List Edg) {k : Nat} (hk : k < l.length) : (mixL l k)[k]? = some l[k] := by
 have h1 : ((l.take k).map oppE).length = k := by simp; omega
 unfold mixL
 rw [List.getElem?_append_right (by omega), h1, Nat.sub_self, List.drop_eq_getElem_cons hk]
 rfl
theorem mixL_set (l : List Edg) {k : Nat} (hk : k < l.length) : (mixL l k).set k (oppE l[k]) = mixL l (k + 1) := by
 unfold mixL
 have h1 : ((l.take k).map oppE).length = k := by simp; omega
 rw [List.set_append_right _ _ (by omega), h1, Nat.sub_self, List.drop_eq_getElem_cons hk, List.take_succ_eq_append_getElem hk, List.map_append, List.append_assoc]
 rfl
theorem bytes_rd (w : World) (l : List UInt8) (c : Nat) (e : TypeId) (fz : Nat × Nat) : Rd yc 1 (w.drew.alloc (.cells (bytesRow ⟨l.toArray⟩ c) e fz)) (some ⟨w.heap.size, 0, none⟩) l := by
 intro i x hx
 have hi := (List.getElem?_eq_some_iff.1 hx).1
 refine ⟨w.heap.size, 0, rfl, by simp, fun j u hu => ?_⟩
 obtain ⟨rfl, rfl⟩ : j = 0 ∧ u = .int .u8 x.toNat := by
  match j, hu with
  | 0, hu => exact ⟨rfl, by simpa [yc] using hu.symm⟩
 rw [cell_of_row _ w.heap.size _ _ e fz (heap_alloc_new w.drew _)]
 unfold bytesRow
 rw [Array.getElem?_append_left (by simpa using hi)]
 simp [hx]
theorem bytes_back (w : World) (g c : Nat) (l : List UInt8) (hr : Rd yc 1 w (some ⟨g, 0, none⟩) l) : (convert 160 9 (.slice (some ⟨g, 0, none⟩) l.length c)).run Tryz.prog w = .ok (sV l) w :=
 run_convert_bytes_back w _ _ 5 _ c l (by kernel_rfl) (by kernel_rfl) (by kernel_rfl) fun j hj => by
  obtain ⟨b, off, e, _, hc⟩ := hr j _ (List.getElem?_eq_getElem hj)
  obtain ⟨rfl, rfl⟩ : g = b ∧ 0 = off := by simpa using e
  have := hc 0 _ rfl
  simp only [Nat.zero_add, Nat.mul_one, Nat.add_zero] at this
  unfold Addr.add
  split
  ·rename_i h0
   subst h0
   exact this
  ·simpa using this
theorem conv_bytes (w : World) (l : List UInt8) : ∃ c, (convert 9 160 (.string ⟨l.toArray⟩)).run Tryz.prog w = .ok (.slice (some ⟨w.heap.size, 0, none⟩) l.length c) (w.drew.alloc (.cells (bytesRow ⟨l.toArray⟩ c) 5 ((bytesRow ⟨l.toArray⟩ c).size, (bytesRow ⟨l.toArray⟩ c).size + 1))) :=
 ⟨_, run_bytes_of_string w 9 160 5 ⟨l.toArray⟩ (by kernel_rfl) (by kernel_rfl) (by kernel_rfl)⟩
theorem opposite_any {v : Value} (l : List Edg) (w : World) (h : SlE w v l) (hlen : l.length ≤ 1000) (hw : ∀ e ∈ l, e.1.length ≤ 1000) :
  Calls Tryz.prog 86 #[v] w (RG ec 3 107 w (oppL l)) := by
 have hre := reversedE_any l w h (by omega)
 obtain ⟨A, c, rfl, _, _, _⟩ := h
 have hwr : ∀ e ∈ l.reverse, e.1.length ≤ 1000 := fun e he => hw e (by simpa using he)
 have hlr : l.reverse.length ≤ 1000 := by simpa using hlen
 have HO : Hid (oppL l = mixL l.reverse l.reverse.length) := by unfold Hid oppL mixL; rw [List.take_length, List.drop_length, List.append_nil]
 obtain ⟨R, hR⟩ : ∃ R, l.reverse = R := ⟨_, rfl⟩
 rw [hR] at hre hwr hlr HO
 have HW := Lib.hid hwr
 clear hR hw hwr
 go_enter Tryz.func86, Tryz.ntmps86
 go_wp2_with fail
 refine (hre).mono ?_
 rintro e w2 ⟨v2, rfl, hO2, hb2⟩
 obtain ⟨A2, c2, rfl⟩ := hO2.shape
 go_wp2
 go_loopw [10] (fun s wr => ∃ k : Nat, k ≤ R.length ∧ s = .int .i64 k ∧ Own ec 3 w.heap.size 107 wr (.slice A2 R.length c2) (mixL R k) ∧ Below w.heap.size w wr) (fun s _ => R.length - (intOf s).toNat)
 case atStart => exact ⟨0, Nat.zero_le _, rfl, by simpa [mixL] using hO2, hb2⟩
 case round =>
  clear hO2 hb2
  obtain ⟨k, hk, rfl, hO, hbk⟩ := hrel
  obtain ⟨wo, rfl⟩ : ∃ x, x = wr := ⟨_, rfl⟩
  by_cases hlt : k < R.length
  ·have hml := mixL_len R hk
   have hmg := mixL_get R hlt
   have HMS := Lib.hid (mixL_set R hlt)
   have hwl := HW.out _ (List.getElem_mem hlt)
   obtain ⟨g, rfl⟩ : ∃ g, A2 = some ⟨g, 0, none⟩ := by
    rcases hO.2 with ⟨hv, hn⟩ | ⟨g, cap, cur, hv, _⟩
    ·rw [hml] at hn; omega
    ·exact ⟨g, (Value.slice.inj hv).1⟩
   obtain ⟨_, hgw, tail, hB, hback⟩ := own_rowT ec_len hO
   have HBK := Lib.hid hback
   have hgl := hB.lt
   obtain ⟨⟨s, t, o⟩, hx⟩ : ∃ z, R[k] = z := ⟨_, rfl⟩
   rw [hx] at hmg HMS hwl
   simp only at hwl
   obtain ⟨M, hM⟩ : ∃ M, mixL R k = M := ⟨_, rfl⟩
   rw [hM] at hO hB hml hmg HMS HBK
   have c0 := rowT_get ec_len tail hmg (j := 0) (by decide)
   have c1 := rowT_get ec_len tail hmg (j := 1) (by decide)
   have c2' := rowT_get ec_len tail hmg (j := 2) (by decide)
   have d0 : wo.cell? ⟨g, k * 3, none⟩ = some (sV s) := by have := hB.cell (k * 3 + 0); rw [c0] at this; exact this
   have d1 : wo.cell? ⟨g, k * 3 + 1, none⟩ = some (.int .i64 t) := by rw [hB.cell, c1]; rfl
   have d2 : wo.cell? ⟨g, k * 3 + 2, none⟩ = some (.bool o) := by rw [hB.cell, c2']; rfl
   clear hx hM c0 c1 c2' hback
   unfold sV at d0
   have hE := Blk.new wo 107 #[.string ⟨s.toArray⟩, .int .i64 t, .bool o]
   replace hB := hB.alloc (.cells #[.string ⟨s.toArray⟩, .int .i64 t, .bool o] 107)
   have hbx := bl_alloc hbk (.cells #[.string ⟨s.toArray⟩, .int .i64 t, .bool o] 107)
   go_upto_region 5 with fail
   obtain ⟨wx, hwx⟩ : ∃ X, wo.alloc (.cells #[.string ⟨s.toArray⟩, .int .i64 t, .bool o] 107) = X := ⟨_, rfl⟩
   obtain ⟨gx, hgx⟩ : ∃ X, wo.heap.size = X := ⟨_, rfl⟩
   rw [hwx] at hB hbx
   rw [hwx, hgx] at hE
   rw [hwx, hgx]
   rw [hgx] at hgl
   clear hwx hgx d0 d1 d2 hO hbk
   have fE := hE.facts
   have fB := hB.facts
   obtain ⟨cb, hcv⟩ := conv_bytes wx.drew s
   obtain ⟨Bs, hBs⟩ : ∃ B : ByteArray, ({ data := s.reverse.toArray } : ByteArray) = B := ⟨_, rfl⟩
   have HSV : Hid (sV s.reverse = .string Bs) := by unfold Hid sV; rw [hBs]
   clear hBs
   refine wp_region_ords [0, 1, 2, 3, 7, 8, 9, 10, 11] [(4, false), (5, false), (6, false), (12, false)] [13, 14] (by kernel_rfl) (by kernel_rfl) (fun d _ _ _ _ h => by cases d <;> exact h) ?_
   simp only [List.map_cons, List.map_nil, List.getD_cons_zero, List.getD_cons_succ]
   repeat (go_big_quiet_step (fail))
   refine wpQuiet_nil ?_
   refine wpMid_run rfl (fun K hK => ?_)
   go_simp
   refine hK _ _ (by (repeat first|exact J0|assumption|(apply J1;assumption)|apply J2|apply J3|apply J4)) ?_
   clear hK K
   refine wpMid_run rfl (fun K hK => ?_)
   go_simp
   refine (reversedY_any _ 0 cb s _ (bytes_rd wx.drew s cb _ _) (by omega)).mono ?_
   rintro e w5 ⟨g5, c5, rfl, hr5, hb5⟩
   refine hK _ _ (by (repeat first|exact J0|assumption|(apply J1;assumption)|apply J2|apply J3|apply J4)) ?_
   clear hK K
   have hB_w5 := hB.below (show Below _ _ w5 by (repeat first|exact J0|assumption|(apply J1;assumption)|apply J2|apply J3|apply J4))
   have fhB_w5 := hB_w5.facts
   have hbk5 := bytes_back w5 g5 c5 s.reverse hr5
   rw [List.length_reverse, HSV.out] at hbk5
   refine wpMid_run rfl (fun K hK => ?_)
   go_simp
   refine hK _ _ (by (repeat first|exact J0|assumption|(apply J1;assumption)|apply J2|apply J3|apply J4)) ?_
   clear hK K
   refine wpMid_run rfl (fun K hK => ?_)
   go_simp
   refine hK _ _ (by (repeat first|exact J0|assumption|(apply J1;assumption)|apply J2|apply J3|apply J4)) ?_
   clear hK K
   refine wpMid_nil ?_
   have hB5 := hB.below (show Below wx.heap.size wx w5 by (repeat first|exact J0|assumption|(apply J1;assumption)|apply J2|apply J3|apply J4))
   have hbw5 : Below w.heap.size w w5 := by (repeat first|exact J0|assumption|(apply J1;assumption)|apply J2|apply J3|apply J4)
   have hkl : k < M.length := by omega
   have r0 := rowT_set ec_len tail (j := 0) (u := .string Bs) (s.reverse, t, o) hmg (by decide) (by rw [← HSV.out]; rfl)
   have hm1 : (M.set k (s.reverse, t, o))[k]? = some (s.reverse, t, o) := by simp [hkl]
   have r1 := rowT_set ec_len tail (j := 1) (u := .int .i64 t) (s.reverse, t, o) hm1 (by decide) rfl
   have hm2 : ((M.set k (s.reverse, t, o)).set k (s.reverse, t, o))[k]? = some (s.reverse, t, o) := by simp [hkl]
   have r2 := rowT_set ec_len tail (j := 2) (u := .bool (!o)) (s.reverse, t, !o) hm2 (by decide) rfl
   simp only [Nat.add_zero] at r0
   have hS := ((hB5.set_ (k * 3) (.string Bs)).set_ (k * 3 + 1) (.int .i64 t)).set_ (k * 3 + 2) (.bool (!o))
   rw [r0, r1, r2, List.set_set, List.set_set, show ((s.reverse, t, !o) : Edg) = oppE (s, t, o) from rfl, HMS.out] at hS
   have hOS := HBK.out _ _ (by rw [mixL_len R (by omega), hml]) hS
   have hbS : Below w.heap.size w (((w5.setCell ⟨g, k * 3, none⟩ (.string Bs)).setCell ⟨g, k * 3 + 1, none⟩ (.int .i64 t)).setCell ⟨g, k * 3 + 2, none⟩ (.bool (!o))) := bl_set (bl_set (bl_set hbw5 hgw _) hgw _) hgw _
   clear r0 r1 r2 hm1 hm2 hmg hcv
   go_wp2_with (refine wpList_store_mid hB5 rfl _ _ _ rfl rfl rfl (by rw [rowT_size ec_len]; simp; omega) (by kernel_rfl) (by kernel_rfl) ?_)
   simp only [World.setCells]
   go_wp2
   go_roundw
   case rel => exact ⟨k + 1, by omega, by go_num, hOS, hbS⟩
   case measure => simp [intOf]; omega
  ·obtain rfl : k = R.length := by omega
   go_wp2
   go_ret
   exact ⟨_, rfl, by rw [HO.out]; exact hO, hbk⟩
end Go.Proofs.YtkkefahobjlagaaGreatDoor

/- A permutation by a key, of the program, walked. Conditions: none. -/
import Derived.Test.YtkmjcoofkgpanaaGreatDoorB14
import Derived.Test.YtkmjcoofkgpanaaGreatDoorB10
import Derived.Laws.CopyRow
namespace Go.Proofs.YtkmjcoofkgpanaaGreatDoor
open Go.RowKit Go.ChangeMaps
set_option maxHeartbeats 4000000
set_option maxRecDepth 100000

section
variable {α : Type} {enc : α → List Value} {sz bytes : Nat} {P : Program} {t e : TypeId} {w : World}
theorem run_cp (E : Elem P t e sz bytes) (henc : ∀ x, (enc x).length = sz) (hone : ∀ x, ∀ u ∈ enc x, u.oneCell' = true) (base : Nat) (ty : TypeId) (v u : Value) (n : Nat) (r : List α) (hown : ∃ xs, w.ownsRow base e sz v n xs) (hu : Sl enc sz w u r) (hn : r.length = n) :
    ∃ w', (Builtin.copy_ #[t, t] ty #[v, u]).run P w = .ok (goInt n) w' ∧ Own enc sz base e w' v r ∧ w.grownBy w' v.ownBlock := by
  obtain ⟨hund, hrow, hpos⟩ := E
  obtain ⟨i, hi, hrow⟩ : ∃ i, P.info? e = some i ∧ (i.zero.map (fun z => z.cells.size), i.size, i.bytes) = (some sz, sz, bytes) := by
    cases h : P.info? e with
    | none => rw [h] at hrow; cases hrow
    | some i => rw [h] at hrow; exact ⟨i, rfl, Option.some.inj hrow⟩
  have h2 := congrArg (fun x => x.2.1) hrow
  simp only at h2
  obtain ⟨A, c, rfl, hlc, hcm, hr⟩ := hu
  obtain ⟨xs, hxl, hv⟩ := hown
  have hfl : (r.flatMap enc).length = r.length * sz := flat_len henc r
  cases A with
  | none =>
    have hr0 : r = [] := by
      cases r with
      | nil => rfl
      | cons x r =>
        obtain ⟨b, off, he, _⟩ := hr 0 x rfl
        cases he
    subst hr0
    obtain rfl : n = 0 := hn.symm
    refine ⟨w, ?_, ⟨by simp, ?_⟩, World.grownBy.refl _ _⟩
    · rcases hv with ⟨rfl, _⟩ | ⟨g, cap, cur, rfl, _, hh, _⟩
      · simp [Builtin.copy_, run_underlying hund, sizeOf, typeInfo, hi, Builtin.lenOf, Builtin.firstCells]
      · simp [Builtin.copy_, run_underlying hund, sizeOf, typeInfo, hi, Builtin.lenOf, Builtin.firstCells, storeCells]
    · rcases hv with h | ⟨g, cap, cur, rfl, hg, hh, hnc, hcm', hcs, htk⟩
      · exact .inl h
      · exact .inr ⟨g, cap, cur, rfl, hg, hh, hnc, hcm', hcs, by simp⟩
  | some ad =>
    have hsrc : ∀ j u, (r.flatMap enc)[j]? = some u → w.cell? (ad.add j) = some u := by
      intro j u hj
      have hjl : j < r.length * sz := by rw [← hfl]; exact (List.getElem?_eq_some_iff.1 hj).1
      have hk : j / sz < r.length := Nat.div_lt_of_lt_mul (by rw [Nat.mul_comm]; exact hjl)
      obtain ⟨b, off, he, hbl, hc⟩ := hr (j / sz) r[j / sz] (List.getElem?_eq_getElem hk)
      have hm : j % sz < (enc r[j / sz]).length := by rw [henc]; exact Nat.mod_lt _ hpos
      have hj' := flat_get henc r (j / sz) r[j / sz] (j % sz) _ (List.getElem?_eq_getElem hk) (List.getElem?_eq_getElem hm)
      have hdm : j / sz * sz + j % sz = j := by rw [Nat.mul_comm]; exact Nat.div_add_mod j sz
      rw [hdm, hj] at hj'
      have hcj := hc (j % sz) u (by rw [List.getElem?_eq_getElem hm]; exact hj'.symm)
      obtain rfl : ad = ⟨b, off, none⟩ := Option.some.inj he
      rw [Nat.add_assoc, hdm] at hcj
      unfold Addr.add
      split
      · rename_i h0
        subst h0
        exact hcj
      · exact hcj
    have hl := run_loadCells_list (P := P) w ad (r.flatMap enc) hsrc
    rw [hfl, hn] at hl
    have h1 : ∀ u ∈ r.flatMap enc, u.oneCell' = true := by
      intro u hu
      obtain ⟨x, hx, hux⟩ := List.mem_flatMap.1 hu
      exact hone x u hux
    rcases hv with ⟨rfl, rfl⟩ | ⟨g, cap, cur, rfl, hg, hh, hnc, hcm', hcs, htk⟩
    · have hr0 : r = [] := List.eq_nil_of_length_eq_zero hn
      subst hr0
      refine ⟨w, ?_, ⟨by simp, .inl ⟨rfl, rfl⟩⟩, World.grownBy.refl _ _⟩
      have hl0 : (loadCells ad 0).run P w = .ok #[] w := by simpa using hl
      simp [Builtin.copy_, run_underlying hund, sizeOf, typeInfo, hi, Builtin.lenOf, Builtin.firstCells, hl0]
    · have hfit : 0 + 0 + (r.flatMap enc).length ≤ cur.size := by rw [hfl, hcs, hn]; simpa using Nat.mul_le_mul_right sz hnc
      have hst := run_storeCells_at P g 0 e (r.flatMap enc) 0 cur w hh hfit h1
      refine ⟨w.setRow g (cur.toList.take (0 + 0) ++ r.flatMap enc ++ cur.toList.drop (0 + 0 + (r.flatMap enc).length)).toArray, ?_, ⟨hfl, .inr ⟨g, cap, _, by rw [hn], hg, setRow_heap w g cur _ e _ hh, by omega, hcm', ?_, ?_⟩⟩, ?_⟩
      · simp [Builtin.copy_, run_underlying hund, sizeOf, typeInfo, hi, h2, Builtin.lenOf, Builtin.firstCells, hn, hl, hst]
      · simp only [List.size_toArray, List.length_append, List.length_take, List.length_drop, Array.length_toList]; omega
      · simp [← hfl]
      · refine ⟨rfl, rfl, rfl, by simp [World.setRow], fun k hk hne => setRow_other w g k _ (fun e => hne (by simp [Value.ownBlock, e]))⟩
end

theorem wp_region_treeB {P : Program} {Q : Exit → Act → World → Prop} {id : Nat} {a : Act} {w : World} {l : List Oper} (B : Nat) (pre : List Nat) (T : OT) (post : List Nat) (hm : P.follows .mixedOrders = true) (hB : treeB .any l.toArray pre T post = true)
    (hQ : ∀ d c a v w, Q (.panic c) (Act.put a d v) w → Q (.panic c) a w)
    (h : wpQuiet P l.toArray (fun w' => ∃ g : Bel B w, w' = g.val) (fun a' => wpTree P l.toArray Q (fun w' => ∃ g : Bel B w, w' = g.val) (post.map fun i => l.getD i default) T a' w.drew) (pre.map fun i => l.getD i default) a) :
    (Code.region id l.toArray true).wp P Q a w := by
  simp only [treeB, Bool.and_eq_true, decide_eq_true_eq] at hB
  obtain ⟨⟨hs, hn⟩, hB'⟩ := hB
  refine wp_region_any hm (wpAny_of_G (C := fun w' => ∃ g : Bel B w, w' = g.val) (kp := fun j => !post.contains j) _ _ _ _ ?_)
  have hn' : pre.length + (l.toArray.size - pre.length) = l.toArray.size := by omega
  have e : ∀ (xs : List Nat), (xs.map fun i => l.toArray.getD i default) = xs.map fun i => l.getD i default := fun xs => List.map_congr_left fun i _ => by simp [Array.getD_eq_getD_getElem?, List.getD_eq_getElem?_getD]
  have := tree_pre (C := fun w' => ∃ g : Bel B w, w' = g.val) hs hQ (Bel.ex (Below.refl B w).drew) pre _ a (Closed.start _) hB' (by rw [e, e]; exact h)
  rw [hn'] at this
  exact this
theorem below_of_grown {w w' : World} {g : Nat} (h : w.grownBy w' (some g)) (hg : g ≤ w.heap.size) : Below g w w' := ⟨h.os, h.tape, h.output, h.size, fun k hk => h.block k (by omega) (by simp; omega)⟩
abbrev OwI (base : Nat) := Own ic 1 base 3
theorem ic_len (x : Int) : (ic x).length = 1 := rfl
theorem ic_one (x : Int) : ∀ u ∈ ic x, u.oneCell' = true := by intro u hu; simp [ic] at hu; subst hu; rfl
theorem int_elem : Elem Tryz.prog 107 3 1 8 := ⟨by kernel_rfl, by kernel_rfl, by decide⟩
theorem Sl.one_int (w : World) (x : Int) (g : Nat) (hg : w.heap.size = g) : Sl ic 1 (w.alloc (.cells #[.int .i64 x] 3)) (.slice (some ⟨g, 0, none⟩) 1 1) [x] := by
  subst hg
  have hB := Blk.new w 3 #[.int .i64 x]
  refine ⟨_, 1, rfl, by simp, by simp [maxLen], fun i b hb => ?_⟩
  match i, hb with
  | 0, hb =>
    obtain rfl : x = b := by simpa using hb
    refine ⟨_, 0, rfl, hB.lt, fun j u hj => ?_⟩
    rw [hB.cell]
    match j, hj with
    | 0, hj => simpa [ic] using hj
theorem wpList_appI {ops : Array Oper} {rest : List Oper} {o : Oper} {a : Act} {Q : Exit → Act → World → Prop} {base : Nat} {W : World} {v : Value} {X : Int} {l : List Int} (hown : OwI base W v l) {g : Nat} (hgd : o.guard = none) (s x : Operand) (ho : o.op = .call { callee := .builtin .append, args := #[s, x], argTypes := #[107, 107] })
    (hs : a.eval s = v) (hx : a.eval x = .slice (some ⟨g, 0, none⟩) 1 1) (hg : W.heap.size = g) (hlen : l.length ≤ 1000000) (hbase : base ≤ W.heap.size)
    (h : ∀ v' w', OwI base w' v' (l ++ [X]) → (W.alloc (.cells #[.int .i64 X] 3)).grownBy w' v.ownBlock → wpList Tryz.prog ops Q rest (a.put o.dst v') w') :
    wpList Tryz.prog ops Q (o :: rest) a (W.alloc (.cells #[.int .i64 X] 3)) :=
  wpList_app hgd int_elem ic_len ic_one s x ho base v _ l [X] hs hx (hown.alloc _) (Sl.one_int W X g hg) (by simp [maxLen]; omega) (by simp; omega) (by simp; omega) h
section
variable {w : World} {base g cap n : Nat} {l : List Int}
theorem flatI_set (x : Int) : ∀ (l : List Int) (i : Nat), (l.flatMap ic).set i (.int .i64 x) = (l.set i x).flatMap ic
  | [], i => rfl
  | a :: r, 0 => rfl
  | a :: r, i + 1 => by
    have := flatI_set x r i
    simp only [List.flatMap_cons, ic, List.singleton_append, List.set_cons_succ] at this ⊢
    rw [this]
theorem ownI_set {e : TypeId} (h : Own ic 1 base e w (.slice (some ⟨g, 0, none⟩) l.length cap) l) (i : Nat) (x : Int) :
    Own ic 1 base e (w.setCell ⟨g, i, none⟩ (.int .i64 x)) (.slice (some ⟨g, 0, none⟩) l.length cap) (l.set i x) ∧ w.grownBy (w.setCell ⟨g, i, none⟩ (.int .i64 x)) (some g) := by
  obtain ⟨h1, g1⟩ := World.ownsRow.stored h i (.int .i64 x)
  rw [flatI_set] at h1
  refine ⟨?_, g1⟩
  unfold Own
  rw [List.length_set]
  exact h1
theorem ownI_there {e : TypeId} (h : Own ic 1 base e w (.slice (some ⟨g, 0, none⟩) l.length cap) l) {i : Nat} (hi : i < l.length) : g < w.heap.size ∧ w.cell? ⟨g, i, none⟩ = some (.int .i64 l[i]) ∧ w.frozen? ⟨g, i, none⟩ = false := by
  obtain ⟨A, c, e, _, _, hr⟩ := h.rd ic_len
  obtain ⟨rfl, rfl⟩ : some ⟨g, 0, none⟩ = A ∧ cap = c := by simpa using e
  obtain ⟨b, off, e2, hb, hc⟩ := hr i l[i] (List.getElem?_eq_getElem hi)
  obtain ⟨rfl, rfl⟩ : g = b ∧ 0 = off := by simpa using e2
  have h0 := hc 0 (.int .i64 l[i]) rfl
  refine ⟨hb, by simpa using h0, ?_⟩
  obtain ⟨hl, hc⟩ := h
  rcases hc with ⟨hv, _⟩ | ⟨g', cap', cur, hv, hg, hh, _⟩
  · cases hv
  · obtain ⟨rfl, rfl⟩ : g = g' ∧ cap = cap' := by simpa using hv
    simp [World.frozen?, hh]
end
theorem run_store_own1 {w : World} {base g cap : Nat} {l : List Int} (h : OwI base w (.slice (some ⟨g, 0, none⟩) l.length cap) l) {i : Nat} (hi : i < l.length) (p : Int) : (storeVar 3 ⟨g, i, none⟩ (.int .i64 p)).run Tryz.prog w = .ok () (w.setCell ⟨g, i, none⟩ (.int .i64 p)) := by
  obtain ⟨_, h3, h4⟩ := ownI_there h hi
  have := run_storeCells_cells (P := Tryz.prog) g i [.int .i64 p] 0 w (fun j hj => by
    obtain rfl : j = 0 := by simpa using hj
    simp [h3]) (fun j hj => by
    obtain rfl : j = 0 := by simpa using hj
    simpa using h4) (fun v hv => by
    obtain rfl : v = .int .i64 p := by simpa using hv
    rfl)
  obtain ⟨j, hj, hs⟩ : ∃ j, Tryz.prog.info? 3 = some j ∧ j.size = 1 := by
    have h0 : (Tryz.prog.info? 3).map (·.size) = some 1 := by kernel_rfl
    cases hq : Tryz.prog.info? 3 with
    | none => rw [hq] at h0; cases h0
    | some j => rw [hq] at h0; exact ⟨j, rfl, by simpa using h0⟩
  simp only [Nat.add_zero] at this
  simp [storeVar, sizeOf, typeInfo, hj, Value.cells, hs, this, World.setCells]
theorem wpList_store_ownI {ops : Array Oper} {rest : List Oper} {op : Oper} {a : Act} {Q : Exit → Act → World → Prop} {w : World} {base g cap n : Nat} {l : List Int} (h : OwI base w (.slice (some ⟨g, 0, none⟩) n cap) l) (hn : l.length = n) {i : Nat} (hi : i < n) (hgd : op.guard = none) (x y : Operand) (ho : op.op = .store 3 x y)
    {p : Int} (hx : a.eval x = .pointer (some ⟨g, i, none⟩)) (hy : a.eval y = .int .i64 p)
    (hK : ∀ W', OwI base W' (.slice (some ⟨g, 0, none⟩) n cap) (l.set i p) → w.grownBy W' (some g) → wpList Tryz.prog ops Q rest (a.put op.dst undef) W') : wpList Tryz.prog ops Q (op :: rest) a w := by
  subst hn
  refine wpList_plain hgd fun K hK' => ?_
  obtain ⟨h1, h2⟩ := ownI_set h i p
  have hr := run_store_own1 h hi p
  unfold Oper.wp execOp
  simp only [ho, hx, hy, Instr.storeAt, Instr.sureAddr, Sem.run_bind, Sem.run_pure, Result.andThen_ok, hr]
  exact hK' _ _ (hK _ h1 h2)
theorem ownI_cell {w : World} {base g cap n : Nat} {l : List Int} (h : OwI base w (.slice (some ⟨g, 0, none⟩) n cap) l) (hn : l.length = n) {i : Nat} (hi : i < n) : g < w.heap.size ∧ w.cell? ⟨g, i, none⟩ = some (.int .i64 (l.getD i 0)) ∧ w.frozen? ⟨g, i, none⟩ = false := by
  subst hn
  obtain ⟨h1, h2, h3⟩ := ownI_there h hi
  exact ⟨h1, by rw [h2]; simp [hi], h3⟩
theorem op_store_ownI {op : Oper} {a : Act} {K : Act → World → Prop} {Q : Exit → Act → World → Prop} {w : World} {base g cap n : Nat} {l : List Int} (h : OwI base w (.slice (some ⟨g, 0, none⟩) n cap) l) (hn : l.length = n) {i : Nat} (hi : i < n) (x y : Operand) (ho : op.op = .store 3 x y)
    {p : Int} (hx : a.eval x = .pointer (some ⟨g, i, none⟩)) (hy : a.eval y = .int .i64 p)
    (hK : ∀ W', OwI base W' (.slice (some ⟨g, 0, none⟩) n cap) (l.set i p) → w.grownBy W' (some g) → K (a.put op.dst undef) W') : op.wp Tryz.prog a w K Q := by
  subst hn
  obtain ⟨h1, h2⟩ := ownI_set h i p
  have hr := run_store_own1 h hi p
  unfold Oper.wp execOp
  simp only [ho, hx, hy, Instr.storeAt, Instr.sureAddr, Sem.run_bind, Sem.run_pure, Result.andThen_ok, hr]
  exact hK _ h1 h2
/-! ## the permutation -/
def swpL (l : List Int) (i k : Nat) : List Int := (l.set i (l.getD k 0)).set k (l.getD i 0)
def drawX (x : Int) : Int := 39373 * x % 2147483647
def drawF : Nat → Int → List Int → List Int
  | 0, _, l => l
  | i + 1, x, l => drawF i (drawX x) (swpL l (i + 1) (drawX x % ((i : Int) + 2)).toNat)
def iotaL : Nat → List Int
  | 0 => []
  | n + 1 => iotaL n ++ [(n : Int)]
theorem iotaL_len : ∀ n, (iotaL n).length = n
  | 0 => rfl
  | n + 1 => by rw [iotaL, List.length_append, iotaL_len n]; rfl
def drawL (key : Int) (n : Nat) : List Int := drawF (n - 1) key (iotaL n)
theorem swpL_len (l : List Int) (i k : Nat) : (swpL l i k).length = l.length := by simp [swpL]
def drawE (key n : Int) : Int := firstI [withinI key 1 2147483646, withinI n 0 256]
def drawR (key n : Int) : List Int := if drawE key n = 0 then drawL key n.toNat else []
def RIE (w : World) (l : List Int) (n : Int) (e : Ending) (w' : World) : Prop := ∃ v, e = .returned (.tuple #[v, .int .i64 n]) ∧ OwI w.heap.size w' v l ∧ Below w.heap.size w w'
theorem apiDraw_any (key n : Int) (w : World) : Calls Tryz.prog 73 #[.int .i64 key, .int .i64 n] w (RIE w (drawR key n) (drawE key n)) := by
  by_cases hE : drawE key n = 0
  · have hE' : (drawE key n != 0) = false := by simp [hE]
    obtain ⟨hk, hn⟩ : (1 ≤ key ∧ key ≤ 2147483646) ∧ (0 ≤ n ∧ n ≤ 256) := by
      obtain ⟨h1, h2⟩ := firstI_zero hE
      unfold withinI whenI at h1 h2
      split at h1 <;> split at h2
      all_goals simp_all
    have HS : Hid (drawR key n = drawL key n.toNat ∧ drawE key n = 0) := by unfold Hid drawR; rw [if_pos hE]; exact ⟨rfl, hE⟩
    have hF : ∀ A c W, Rd ic 1 W A [withinI key 1 2147483646, withinI n 0 256] → Calls Tryz.prog 83 #[.slice A 2 c] W (RV W (.int .i64 (drawE key n))) := fun A c W hr => nfirst_any [withinI key 1 2147483646, withinI n 0 256] A c W (by simp [maxLen]) hr
    clear hE
    obtain ⟨m, rfl⟩ : ∃ m : Nat, n = (m : Int) := ⟨n.toNat, by omega⟩
    rw [Int.toNat_natCast] at HS
    have hm : m ≤ 256 := by omega
    have HL0 := Lib.hid (show drawL key m = drawF (m - 1) key (iotaL m) from rfl)
    obtain ⟨ii, hii⟩ : ∃ i, Tryz.prog.info? 3 = some i := ⟨_, rfl⟩
    obtain ⟨z, hz⟩ : ∃ z, ii.zero = some z := by
      have : (Tryz.prog.info? 3).bind (·.zero) = some (.int .i64 0) := by kernel_rfl
      rw [hii] at this
      exact ⟨_, this⟩
    have hsb : ii.size = 1 ∧ ii.bytes = 8 := by
      have h1 : (Tryz.prog.info? 3).map (fun i => (i.size, i.bytes)) = some (1, 8) := by kernel_rfl
      rw [hii] at h1
      simpa using h1
    go_enter Tryz.func73, Tryz.ntmps73
    go_wp2_with (first | (go_at_call 84; refine (nwithin_any _ _ _ _).mono ?_; rintro e w1 ⟨rfl, hb1⟩) | (go_at_call 83; go_must (refine (hF _ _ _ (Rd.ints2 (by simp) (by go_simp) (by go_simp))).mono ?_); rintro e w3 ⟨rfl, hb3⟩))
    have hbw3 : Below w.heap.size w w3 := by (repeat (first | exact bl_refl | assumption | (apply bl_then; assumption) | refine bl_alloc ?_ _ | refine bl_drew ?_ | refine bl_drewN ?_ _))
    go_loopw [7, 23] (fun o i wr => ∃ k : Nat, k ≤ m ∧ i = .int .i64 k ∧ OwI w.heap.size wr o (iotaL k) ∧ Below w.heap.size w wr) (fun _ i _ => m - (intOf i).toNat)
    case atStart => exact ⟨0, Nat.zero_le _, rfl, Own.nil_, hbw3⟩
    case round =>
      clear hF hb1 hb3 hbw3
      obtain ⟨k, hk', rfl, hO, hbw⟩ := hrel
      obtain ⟨wa, rfl⟩ : ∃ x, x = wr := ⟨_, rfl⟩
      by_cases hlt : k < m
      · have hll := iotaL_len k
        have HI : Hid (iotaL (k + 1) = iotaL k ++ [(k : Int)]) := rfl
        go_wp2_with (at_builtin; refine wpList_appI hO rfl _ _ rfl rfl rfl rfl (by omega) (Below.size hbw) ?_; intro v2 w2 hO2 hg2)
        have hbw2 := own_step (hO.alloc (.cells #[.int .i64 (k : Int)] 3)) hg2 (bl_alloc hbw _)
        go_roundw
        case rel => exact ⟨k + 1, by omega, by go_num, by rw [HI.out]; exact hO2, hbw2⟩
        case measure => simp [intOf]; omega
      · obtain rfl : k = m := by omega
        have hll := iotaL_len k
        go_wp2_with (at_make; refine wpList_make_full _ rfl _ _ 107 rfl w.heap.size 3 ii z 1 int_elem.und hii hz hsb.1 _ _ _ _ k rfl rfl rfl rfl (by rw [hsb.2]; omega) (by simp [maxLen]; omega) (Below.size hbw) ?_; intro w4 hrow hgr4)
        have hb4 : Below wa.heap.size wa w4 := bl_grown hgr4 bl_refl (by simp)
        obtain ⟨w5, hrun, hO5, hgr5⟩ := run_cp (P := Tryz.prog) int_elem ic_len ic_one w.heap.size 3 _ _ k (iotaL k) ⟨_, hrow⟩ ((hO.rd ic_len).below hb4) hll
        go_wp2_with fail
        rw [hrun]
        have hbw5 := own_step hO5 hgr5 (bl_then hb4 hbw)
        have hks := Lib.hid hk
        clear hO hrow hgr4 hb4 hrun hgr5 hbw
        go_wp2
        go_loopw [10, 11] (fun x i wr => ∃ (j : Nat) (X : Int) (l : List Int), j ≤ k ∧ i = .int .i64 ((j : Int) - 1) ∧ x = .int .i64 X ∧ Hid (0 ≤ X ∧ X ≤ 2147483646) ∧ l.length = k ∧ Hid (drawL key k = drawF (j - 1) X l) ∧ OwI w.heap.size wr _ l ∧ Below w.heap.size w wr) (fun _ i _ => (intOf i).toNat)
        case atStart => exact ⟨k, key, _, Nat.le_refl _, rfl, rfl, by have := hks.out; unfold Hid; omega, hll, HL0, hO5, hbw5⟩
        case round =>
          clear hO5 hbw5 HL0
          obtain ⟨j, X, l, hj, rfl, rfl, hX, hll, HD, hO, hbw⟩ := hrel
          obtain ⟨wo, rfl⟩ : ∃ x, x = wr := ⟨_, rfl⟩
          by_cases h2 : 2 ≤ j
          · obtain ⟨t, rfl⟩ : ∃ t, j = t + 2 := ⟨j - 2, by omega⟩
            have HD2 : Hid (drawL key k = drawF t (drawX X) (swpL l (t + 1) (drawX X % ((t : Int) + 2)).toNat)) := by unfold Hid; rw [HD.out, show t + 2 - 1 = t + 1 by omega]; rfl
            have hX0 := hX.out
            have hXr : 0 ≤ drawX X ∧ drawX X ≤ 2147483646 := by unfold drawX; omega
            have hx1 : (39373 * X).tmod 2147483647 = drawX X := by unfold drawX; rw [Int.tmod_eq_emod_of_nonneg (by omega)]
            have hx2 : 39373 * X % 2147483647 = drawX X := rfl
            obtain ⟨Z, hZ⟩ : ∃ Z, drawX X = Z := ⟨_, rfl⟩
            rw [hZ] at HD2 hXr hx1 hx2
            obtain ⟨K, hK⟩ : ∃ K : Nat, Z % ((t : Int) + 2) = (K : Int) := ⟨(Z % ((t : Int) + 2)).toNat, by have := Int.emod_nonneg Z (show (t : Int) + 2 ≠ 0 by omega); omega⟩
            have hKl : K < t + 2 := by have := Int.emod_lt_of_pos Z (show (0 : Int) < (t : Int) + 2 by omega); omega
            rw [hK, Int.toNat_natCast] at HD2
            have hk1 : Z % ((t : Int) + 1 + 1) = (K : Int) := by rw [← hK]; congr 1
            have hk2 : Z.tmod ((t : Int) + 1 + 1) = (K : Int) := by rw [Int.tmod_eq_emod_of_nonneg (by omega), hk1]
            have hk3 : Z.tmod ((t : Int) + 2) = (K : Int) := by rw [Int.tmod_eq_emod_of_nonneg (by omega), hK]
            have hi : ((t + 2 : Nat) : Int) - 1 = (t : Int) + 1 := by omega
            rw [hi]
            clear hX hZ HD hK
            obtain ⟨g1, ci, fi⟩ := ownI_cell hO hll (show t + 1 < k by omega)
            obtain ⟨_, ck, fk⟩ := ownI_cell hO hll (show K < k by omega)
            go_upto_region 18 with fail
            refine wp_region_treeB (wa.heap.size) [0, 1, 2, 3, 4, 5, 6, 8, 9, 10] (.alt (.br 7 (.alt (.br 11 (.take 12 (.alt (.br 13 (.fin) (.stop)))) (.stop))) (.br 11 (.alt (.br 7 (.take 12 (.alt (.br 13 (.fin) (.stop)))) (.stop))) (.stop)))) [14, 15] (by kernel_rfl) (by kernel_rfl) (fun d _ _ _ _ h => by cases d <;> exact h) ?_
            simp only [List.map_cons, List.map_nil, List.getD_cons_zero, List.getD_cons_succ]
            repeat (go_big_quiet_step (fail))
            refine wpQuiet_nil ?_
            refine wpTree_alt ?_
            refine wpTree_br rfl rfl ?_ ?_
            · intro K hK
              go_simp
              refine hK _ _ (Below.refl _ _).drew ?_
              clear hK K
              refine wpTree_alt ?_
              refine wpTree_br rfl rfl ?_ wpTree_stop
              intro K hK
              go_simp
              refine hK _ _ (Below.refl _ _).drew ?_
              clear hK K
              refine wpTree_take rfl rfl ?_
              intro K hK
              simp only [Array.getD_eq_getD_getElem?, List.getElem?_toArray, List.getElem?_cons_succ, List.getElem?_cons_zero, Option.getD_some]
              go_big_quiet_op
              go_big_quiet_on
              refine wpTree_alt ?_
              refine wpTree_br rfl rfl ?_ wpTree_stop
              intro K hK
              refine op_store_ownI hO hll (i := t + 1) (by omega) _ _ rfl rfl rfl ?_
              intro w6 hO6 hg6
              refine hK _ _ ((Below.refl _ _).drew.trans (below_of_grown hg6 (Nat.le_of_lt g1))) ?_
              clear hK K
              refine wpTree_fin ?_
              go_wp2_with (refine wpList_store_ownI hO6 (by rw [List.length_set]; exact hll) (i := K) (by omega) rfl _ _ rfl rfl rfl ?_; intro w7 hO7 hg7)
              have hbw7 : Below w.heap.size w w7 := own_step hO6 hg7 (own_step hO hg6 (bl_drew hbw))
              go_roundw
              case rel => exact ⟨t + 1, Z, swpL l (t + 1) K, by omega, by go_num, rfl, hXr, by rw [swpL_len]; exact hll, HD2.out, hO7, hbw7⟩
              case measure => simp [intOf]
            · refine wpTree_br rfl rfl ?_ wpTree_stop
              intro K hK
              go_simp
              refine hK _ _ (Below.refl _ _).drew ?_
              clear hK K
              refine wpTree_alt ?_
              refine wpTree_br rfl rfl ?_ wpTree_stop
              intro K hK
              go_simp
              refine hK _ _ (Below.refl _ _).drew ?_
              clear hK K
              refine wpTree_take rfl rfl ?_
              intro K hK
              simp only [Array.getD_eq_getD_getElem?, List.getElem?_toArray, List.getElem?_cons_succ, List.getElem?_cons_zero, Option.getD_some]
              go_big_quiet_op
              go_big_quiet_on
              refine wpTree_alt ?_
              refine wpTree_br rfl rfl ?_ wpTree_stop
              intro K hK
              refine op_store_ownI hO hll (i := t + 1) (by omega) _ _ rfl rfl rfl ?_
              intro w6 hO6 hg6
              refine hK _ _ ((Below.refl _ _).drew.trans (below_of_grown hg6 (Nat.le_of_lt g1))) ?_
              clear hK K
              refine wpTree_fin ?_
              go_wp2_with (refine wpList_store_ownI hO6 (by rw [List.length_set]; exact hll) (i := K) (by omega) rfl _ _ rfl rfl rfl ?_; intro w7 hO7 hg7)
              have hbw7 : Below w.heap.size w w7 := own_step hO6 hg7 (own_step hO hg6 (bl_drew hbw))
              go_roundw
              case rel => exact ⟨t + 1, Z, swpL l (t + 1) K, by omega, by go_num, rfl, hXr, by rw [swpL_len]; exact hll, HD2.out, hO7, hbw7⟩
              case measure => simp [intOf]
          · have HE : Hid (drawL key k = l) := by unfold Hid; rw [HD.out, show j - 1 = 0 by omega]; rfl
            have hlt0 : ((0 : Int) < (j : Int) - 1) = False := by simp; omega
            go_wp2
            go_ret2
            exact ⟨_, by rw [HS.out.2]; rfl, by rw [HS.out.1, HE.out]; exact hO, hbw⟩
  · have HS : Hid (drawR key n = []) := by unfold Hid drawR; rw [if_neg hE]
    have hE' : (drawE key n != 0) = true := by simpa using hE
    have hF : ∀ A c W, Rd ic 1 W A [withinI key 1 2147483646, withinI n 0 256] → Calls Tryz.prog 83 #[.slice A 2 c] W (RV W (.int .i64 (drawE key n))) := fun A c W hr => nfirst_any [withinI key 1 2147483646, withinI n 0 256] A c W (by simp [maxLen]) hr
    clear hE
    go_enter Tryz.func73, Tryz.ntmps73
    go_wp2_with (first | (go_at_call 84; refine (nwithin_any _ _ _ _).mono ?_; rintro e w1 ⟨rfl, hb1⟩) | (go_at_call 83; go_must (refine (hF _ _ _ (Rd.ints2 (by simp) (by go_simp) (by go_simp))).mono ?_); rintro e w3 ⟨rfl, hb3⟩))
    go_ret2
    exact ⟨_, rfl, by rw [HS.out]; exact Own.nil_, by (repeat (first | exact bl_refl | assumption | (apply bl_then; assumption) | refine bl_alloc ?_ _ | refine bl_drew ?_ | refine bl_drewN ?_ _))⟩
end Go.Proofs.YtkmjcoofkgpanaaGreatDoor

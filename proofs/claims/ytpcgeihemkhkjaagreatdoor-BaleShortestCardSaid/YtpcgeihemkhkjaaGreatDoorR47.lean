/- A permutation by a key, of the program, walked. Conditions: none. -/
import Derived.Test.YtpcgeihemkhkjaaGreatDoorR09
import Derived.Laws.CopyRow
import Derived.Test.YtpcgeihemkhkjaaGreatDoorR04
import Derived.Test.YtpcgeihemkhkjaaGreatDoorR21
namespace Go.Proofs.YtpcgeihemkhkjaaGreatDoor
open Go.RowKit Go.ChangeMaps
set_option maxHeartbeats 4000000
set_option maxRecDepth 100000
theorem wp_region_treeB {P : Program} {Q : Exit → Act → World → Prop} {id : Nat} {a : Act} {w : World} {l : List Oper} (B : Nat) (pre : List Nat) (T : OT) (post : List Nat) (hm : P.follows .mixedOrders = true) (hB : treeB .any l.toArray pre T post = true)
  (hQ : ∀ d c a v w, Q (.panic c) (Act.put a d v) w → Q (.panic c) a w)
  (h : wpQuiet P l.toArray (fun w' => ∃ g : Bel B w, w' = g.val) (fun a' => wpTree P l.toArray Q (fun w' => ∃ g : Bel B w, w' = g.val) (post.map fun i => l.getD i default) T a' w.drew) (pre.map fun i => l.getD i default) a) :
  (Code.region id l.toArray true).wp P Q a w := by
 simp only [treeB, Bool.and_eq_true, decide_eq_true_eq] at hB
 obtain ⟨⟨hs, hn⟩, hB'⟩ := hB
 refine wp_region_any hm (wpAny_of_G (C := fun w' => ∃ g : Bel B w, w' = g.val) (kp := fun j => !post.contains j) _ _ _ _ ?_)
 have hn' : pre.length + (l.toArray.size - pre.length) = l.toArray.size := by omega
 have e : ∀ (xs : List Nat), (xs.map fun i => l.toArray.getD i default) = xs.map fun i => l.getD i default := fun xs => List.map_congr_left fun i _ => by simp [Array.getD_eq_getD_getElem?, List.getD_eq_getElem?_getD]
 have := tree_pre (C := fun w' => ∃ g : Bel B w, w' = g.val) hs hQ (Bel.ex (Below.refl B w).drew) pre _ a (Closed.start _) hB' (by rw [e, e]; exact h)
 rw [hn'] at this
 exact this
theorem below_of_grown {w w' : World} {g : Nat} (h : w.grownBy w' (some g)) (hg : g ≤ w.heap.size) : Below g w w' := ⟨h.os, h.tape, h.output, h.size, fun k hk => h.block k (by omega) (by simp; omega)⟩
abbrev OwI (base : Nat) := Own ic 1 base 3
theorem ic_len (x : Int) : (ic x).length = 1 := rfl
theorem ic_one (x : Int) : ∀ u ∈ ic x, u.oneCell' = true := by intro u hu; simp [ic] at hu; subst hu; rfl
theorem int_elem : Elem Tryz.prog 134 3 1 8 := ⟨by kernel_rfl, by kernel_rfl, by decide⟩
theorem Sl.one_int (w : World) (x : Int) (g : Nat) (hg : w.heap.size = g) : Sl ic 1 (w.alloc (.cells #[.int .i64 x] 3)) (.slice (some ⟨g, 0, none⟩) 1 1) [x] := by
 subst hg
 have hB := Blk.new w 3 #[.int .i64 x]
 refine ⟨_, 1, rfl, by simp, by simp [maxLen], fun i b hb => ?_⟩
 match i, hb with
 | 0, hb =>
  obtain rfl : x = b := by simpa using hb
  refine ⟨_, 0, rfl, hB.lt, fun j u hj => ?_⟩
  rw [hB.cell]
  match j, hj with
  | 0, hj => simpa [ic] using hj
theorem wpList_appI {ops : Array Oper} {rest : List Oper} {o : Oper} {a : Act} {Q : Exit → Act → World → Prop} {base : Nat} {W : World} {v : Value} {X : Int} {l : List Int} (hown : OwI base W v l) {g : Nat} (hgd : o.guard = none) (s x : Operand) (ho : o.op = .call { callee := .builtin .append, args := #[s, x], argTypes := #[134, 134] })
    (hs : a.eval s = v) (hx : a.eval x = .slice (some ⟨g, 0, none⟩) 1 1) (hg : W.heap.size = g) (hlen : l.length ≤ 1000000) (hbase : base ≤ W.heap.size)
    (h : ∀ v' w', OwI base w' v' (l ++ [X]) → (W.alloc (.cells #[.int .i64 X] 3)).grownBy w' v.ownBlock → wpList Tryz.prog ops Q rest (a.put o.dst v') w') :
    wpList Tryz.prog ops Q (o :: rest) a (W.alloc (.cells #[.int .i64 X] 3)) :=
  wpList_app hgd int_elem ic_len ic_one s x ho base v _ l [X] hs hx (hown.alloc _) (Sl.one_int W X g hg) (by simp [maxLen]; omega) (by simp; omega) (by simp; omega) h
section
variable {w : World} {base g cap n : Nat} {l : List Int}
theorem flatI_set (x : Int) : ∀ (l : List Int) (i : Nat), (l.flatMap ic).set i (.int .i64 x) = (l.set i x).flatMap ic
 | [], i => rfl
 | a :: r, 0 => rfl
 | a :: r, i + 1 => by
  have := flatI_set x r i
  simp only [List.flatMap_cons, ic, List.singleton_append, List.set_cons_succ] at this ⊢
  rw [this]
theorem ownI_set {e : TypeId} (h : Own ic 1 base e w (.slice (some ⟨g, 0, none⟩) l.length cap) l) (i : Nat) (x : Int) :
  Own ic 1 base e (w.setCell ⟨g, i, none⟩ (.int .i64 x)) (.slice (some ⟨g, 0, none⟩) l.length cap) (l.set i x) ∧ w.grownBy (w.setCell ⟨g, i, none⟩ (.int .i64 x)) (some g) := by
 obtain ⟨h1, g1⟩ := World.ownsRow.stored h i (.int .i64 x)
 rw [flatI_set] at h1
 refine ⟨?_, g1⟩
 unfold Own
 rw [List.length_set]
 exact h1
theorem ownI_there {e : TypeId} (h : Own ic 1 base e w (.slice (some ⟨g, 0, none⟩) l.length cap) l) {i : Nat} (hi : i < l.length) : g < w.heap.size ∧ w.cell? ⟨g, i, none⟩ = some (.int .i64 l[i]) ∧ w.frozen? ⟨g, i, none⟩ = false := by
 obtain ⟨A, c, e, _, _, hr⟩ := h.rd ic_len
 obtain ⟨rfl, rfl⟩ : some ⟨g, 0, none⟩ = A ∧ cap = c := by simpa using e
 obtain ⟨b, off, e2, hb, hc⟩ := hr i l[i] (List.getElem?_eq_getElem hi)
 obtain ⟨rfl, rfl⟩ : g = b ∧ 0 = off := by simpa using e2
 have h0 := hc 0 (.int .i64 l[i]) rfl
 refine ⟨hb, by simpa using h0, ?_⟩
 obtain ⟨hl, hc⟩ := h
 rcases hc with ⟨hv, _⟩ | ⟨g', cap', cur, hv, hg, hh, _⟩
 ·cases hv
 ·obtain ⟨rfl, rfl⟩ : g = g' ∧ cap = cap' := by simpa using hv
  simp [World.frozen?, hh]
end
theorem run_store_own1 {w : World} {base g cap : Nat} {l : List Int} (h : OwI base w (.slice (some ⟨g, 0, none⟩) l.length cap) l) {i : Nat} (hi : i < l.length) (p : Int) : (storeVar 3 ⟨g, i, none⟩ (.int .i64 p)).run Tryz.prog w = .ok () (w.setCell ⟨g, i, none⟩ (.int .i64 p)) := by
 obtain ⟨_, h3, h4⟩ := ownI_there h hi
 have := run_storeCells_cells (P := Tryz.prog) g i [.int .i64 p] 0 w (fun j hj => by
  obtain rfl : j = 0 := by simpa using hj
  simp [h3]) (fun j hj => by
  obtain rfl : j = 0 := by simpa using hj
  simpa using h4) (fun v hv => by
  obtain rfl : v = .int .i64 p := by simpa using hv
  rfl)
 obtain ⟨j, hj, hs⟩ : ∃ j, Tryz.prog.info? 3 = some j ∧ j.size = 1 := by
  have h0 : (Tryz.prog.info? 3).map (·.size) = some 1 := by kernel_rfl
  cases hq : Tryz.prog.info? 3 with
  | none => rw [hq] at h0; cases h0
  | some j => rw [hq] at h0; exact ⟨j, rfl, by simpa using h0⟩
 simp only [Nat.add_zero] at this
 simp [storeVar, sizeOf, typeInfo, hj, Value.cells, hs, this, World.setCells]
theorem wpList_store_ownI {ops : Array Oper} {rest : List Oper} {op : Oper} {a : Act} {Q : Exit → Act → World → Prop} {w : World} {base g cap n : Nat} {l : List Int} (h : OwI base w (.slice (some ⟨g, 0, none⟩) n cap) l) (hn : l.length = n) {i : Nat} (hi : i < n) (hgd : op.guard = none) (x y : Operand) (ho : op.op = .store 3 x y)
  {p : Int} (hx : a.eval x = .pointer (some ⟨g, i, none⟩)) (hy : a.eval y = .int .i64 p)
  (hK : ∀ W', OwI base W' (.slice (some ⟨g, 0, none⟩) n cap) (l.set i p) → w.grownBy W' (some g) → wpList Tryz.prog ops Q rest (a.put op.dst undef) W') : wpList Tryz.prog ops Q (op :: rest) a w := by
 subst hn
 refine wpList_plain hgd fun K hK' => ?_
 obtain ⟨h1, h2⟩ := ownI_set h i p
 have hr := run_store_own1 h hi p
 unfold Oper.wp execOp
 simp only [ho, hx, hy, Instr.storeAt, Instr.sureAddr, Sem.run_bind, Sem.run_pure, Result.andThen_ok, hr]
 exact hK' _ _ (hK _ h1 h2)
theorem ownI_cell {w : World} {base g cap n : Nat} {l : List Int} (h : OwI base w (.slice (some ⟨g, 0, none⟩) n cap) l) (hn : l.length = n) {i : Nat} (hi : i < n) : g < w.heap.size ∧ w.cell? ⟨g, i, none⟩ = some (.int .i64 (l.getD i 0)) ∧ w.frozen? ⟨g, i, none⟩ = false := by
 subst hn
 obtain ⟨h1, h2, h3⟩ := ownI_there h hi
 exact ⟨h1, by rw [h2]; simp [hi], h3⟩
theorem op_store_ownI {op : Oper} {a : Act} {K : Act → World → Prop} {Q : Exit → Act → World → Prop} {w : World} {base g cap n : Nat} {l : List Int} (h : OwI base w (.slice (some ⟨g, 0, none⟩) n cap) l) (hn : l.length = n) {i : Nat} (hi : i < n) (x y : Operand) (ho : op.op = .store 3 x y)
  {p : Int} (hx : a.eval x = .pointer (some ⟨g, i, none⟩)) (hy : a.eval y = .int .i64 p)
  (hK : ∀ W', OwI base W' (.slice (some ⟨g, 0, none⟩) n cap) (l.set i p) → w.grownBy W' (some g) → K (a.put op.dst undef) W') : op.wp Tryz.prog a w K Q := by
 subst hn
 obtain ⟨h1, h2⟩ := ownI_set h i p
 have hr := run_store_own1 h hi p
 unfold Oper.wp execOp
 simp only [ho, hx, hy, Instr.storeAt, Instr.sureAddr, Sem.run_bind, Sem.run_pure, Result.andThen_ok, hr]
 exact hK _ h1 h2
def swpL (l : List Int) (i k : Nat) : List Int := (l.set i (l.getD k 0)).set k (l.getD i 0)
def drawX (x : Int) : Int := 39373 * x % 2147483647
def drawF : Nat → Int → List Int → List Int
 | 0, _, l => l
 | i + 1, x, l => drawF i (drawX x) (swpL l (i + 1) (drawX x % ((i : Int) + 2)).toNat)
def iotaL : Nat → List Int
 | 0 => []
 | n + 1 => iotaL n ++ [(n : Int)]
theorem iotaL_len : ∀ n, (iotaL n).length = n
 | 0 => rfl
 | n + 1 => by rw [iotaL, List.length_append, iotaL_len n]; rfl
def drawL (key : Int) (n : Nat) : List Int := drawF (n - 1) key (iotaL n)
theorem swpL_len (l : List Int) (i k : Nat) : (swpL l i k).length = l.length := by simp [swpL]
def RIO (w : World) (l : List Int) (e : Ending) (w' : World) : Prop := ∃ v, e = .returned v ∧ OwI w.heap.size w' v l ∧ Below w.heap.size w w'
theorem ownI_shape0 {base : Nat} {e : TypeId} {w : World} {v : Value} {l : List Int} (h : Own ic 1 base e w v l) (hl : 0 < l.length) : ∃ g c, v = .slice (some ⟨g, 0, none⟩) l.length c ∧ base ≤ g := by
 obtain ⟨_, h⟩ := h
 rcases h with ⟨_, h0⟩ | ⟨g, cap, cur, hv, hb, _⟩
 ·omega
 ·exact ⟨g, cap, hv, hb⟩
theorem rdraw_any (key : Int) (m : Nat) (hk : 1 ≤ key ∧ key ≤ 2147483646) (hm : m ≤ 256) (w : World) : Calls Tryz.prog 71 #[.int .i64 key, .int .i64 m] w (RIO w (drawL key m)) := by
 have HL0 := Lib.hid (show drawL key m = drawF (m - 1) key (iotaL m) from rfl)
 go_enter Tryz.func71, Tryz.ntmps71
 go_wp2
 go_loopw [5, 6] (fun o i wr => ∃ k : Nat, k ≤ m ∧ i = .int .i64 k ∧ OwI w.heap.size wr o (iotaL k) ∧ Below w.heap.size w wr) (fun _ i _ => m - (intOf i).toNat)
 case atStart => exact ⟨0, Nat.zero_le _, rfl, Own.nil_, by (repeat first|exact J0|assumption|(apply J1;assumption)|apply J2|apply J3|apply J4)⟩
 case round =>
  obtain ⟨k, hk', rfl, hO, hbw⟩ := hrel
  obtain ⟨wa, rfl⟩ : ∃ x, x = wr := ⟨_, rfl⟩
  by_cases hlt : k < m
  ·have hll := iotaL_len k
   have HI : Hid (iotaL (k + 1) = iotaL k ++ [(k : Int)]) := rfl
   go_wp2_with (at_builtin; refine wpList_appI hO rfl _ _ rfl rfl rfl rfl (by omega) (Below.size hbw) ?_; intro v2 w2 hO2 hg2)
   have hbw2 := own_step (hO.alloc (.cells #[.int .i64 (k : Int)] 3)) hg2 (bl_alloc hbw _)
   go_wp2
   go_roundw
   case rel => exact ⟨k + 1, by omega, by go_num, by rw [HI.out]; exact hO2, hbw2⟩
   case measure => simp [intOf]; omega
  ·obtain rfl : k = m := by omega
   have hll := iotaL_len k
   have hks := Lib.hid hk
   by_cases hk0 : k = 0
   ·subst hk0
    go_wp2
    go_loopw [7] (fun i wr => i = .int .i64 (-1) ∧ wr = wa) (fun _ _ => 0)
    case atStart => exact ⟨rfl, rfl⟩
    case round =>
     obtain ⟨rfl, rfl⟩ := hrel
     go_wp2
     go_ret
     exact ⟨_, rfl, hO, hbw⟩
   ·obtain ⟨g, cap, rfl, hgb⟩ := ownI_shape0 hO (by omega)
    rw [hll] at hO ⊢
    go_wp2
    go_loopw [0, 7] (fun x i wr => ∃ (j : Nat) (X : Int) (l : List Int), 1 ≤ j ∧ j ≤ k ∧ i = .int .i64 ((j : Int) - 1) ∧ x = .int .i64 X ∧ Hid (0 ≤ X ∧ X ≤ 2147483646) ∧ l.length = k ∧ Hid (drawL key k = drawF (j - 1) X l) ∧ OwI w.heap.size wr (.slice (some ⟨g, 0, none⟩) k cap) l ∧ Below w.heap.size w wr) (fun _ i _ => (intOf i).toNat)
    case atStart => exact ⟨k, key, _, by omega, Nat.le_refl _, rfl, rfl, by have := hks.out; unfold Hid; omega, hll, HL0, hO, hbw⟩
    case round =>
     clear hO hbw HL0
     obtain ⟨j, X, l, hj1, hj, rfl, rfl, hX, hll, HD, hO, hbw⟩ := hrel
     obtain ⟨wo, rfl⟩ : ∃ x, x = wr := ⟨_, rfl⟩
     by_cases h2 : 2 ≤ j
     ·obtain ⟨t, rfl⟩ : ∃ t, j = t + 2 := ⟨j - 2, by omega⟩
      have HD2 : Hid (drawL key k = drawF t (drawX X) (swpL l (t + 1) (drawX X % ((t : Int) + 2)).toNat)) := by unfold Hid; rw [HD.out, show t + 2 - 1 = t + 1 by omega]; rfl
      have hX0 := hX.out
      have hXr : 0 ≤ drawX X ∧ drawX X ≤ 2147483646 := by unfold drawX; omega
      have hx1 : (39373 * X).tmod 2147483647 = drawX X := by unfold drawX; rw [Int.tmod_eq_emod_of_nonneg (by omega)]
      have hx2 : 39373 * X % 2147483647 = drawX X := rfl
      obtain ⟨Z, hZ⟩ : ∃ Z, drawX X = Z := ⟨_, rfl⟩
      rw [hZ] at HD2 hXr hx1 hx2
      obtain ⟨K, hK⟩ : ∃ K : Nat, Z % ((t : Int) + 2) = (K : Int) := ⟨(Z % ((t : Int) + 2)).toNat, by have := Int.emod_nonneg Z (show (t : Int) + 2 ≠ 0 by omega); omega⟩
      have hKl : K < t + 2 := by have := Int.emod_lt_of_pos Z (show (0 : Int) < (t : Int) + 2 by omega); omega
      rw [hK, Int.toNat_natCast] at HD2
      have hk1 : Z % ((t : Int) + 1 + 1) = (K : Int) := by rw [← hK]; congr 1
      have hk2 : Z.tmod ((t : Int) + 1 + 1) = (K : Int) := by rw [Int.tmod_eq_emod_of_nonneg (by omega), hk1]
      have hk3 : Z.tmod ((t : Int) + 2) = (K : Int) := by rw [Int.tmod_eq_emod_of_nonneg (by omega), hK]
      have hi : ((t + 2 : Nat) : Int) - 1 = (t : Int) + 1 := by omega
      rw [hi]
      clear hX hZ HD hK
      obtain ⟨g1, ci, fi⟩ := ownI_cell hO hll (show t + 1 < k by omega)
      obtain ⟨_, ck, fk⟩ := ownI_cell hO hll (show K < k by omega)
      go_upto_region 11 with fail
      refine wp_region_treeB (w.heap.size) [0, 1, 2, 3, 4, 5, 6, 8, 9, 10] (.alt (.br 7 (.alt (.br 11 (.take 12 (.alt (.br 13 (.fin) (.stop)))) (.stop))) (.br 11 (.alt (.br 7 (.take 12 (.alt (.br 13 (.fin) (.stop)))) (.stop))) (.stop)))) [14, 15] (by kernel_rfl) (by kernel_rfl) (fun d _ _ _ _ h => by cases d <;> exact h) ?_
      simp only [List.map_cons, List.map_nil, List.getD_cons_zero, List.getD_cons_succ]
      repeat (go_big_quiet_step (fail))
      refine wpQuiet_nil ?_
      refine wpTree_alt ?_
      refine wpTree_br rfl rfl ?_ ?_
      ·intro K hK
       go_simp
       refine hK _ _ (Below.refl _ _).drew ?_
       clear hK K
       refine wpTree_alt ?_
       refine wpTree_br rfl rfl ?_ wpTree_stop
       intro K hK
       go_simp
       refine hK _ _ (Below.refl _ _).drew ?_
       clear hK K
       refine wpTree_take rfl rfl ?_
       intro K hK
       simp only [Array.getD_eq_getD_getElem?, List.getElem?_toArray, List.getElem?_cons_succ, List.getElem?_cons_zero, Option.getD_some]
       go_big_quiet_op
       go_big_quiet_on
       refine wpTree_alt ?_
       refine wpTree_br rfl rfl ?_ wpTree_stop
       intro K hK
       refine op_store_ownI hO hll (i := t + 1) (by omega) _ _ rfl rfl rfl ?_
       intro w6 hO6 hg6
       refine hK _ _ ((Below.refl _ _).drew.trans ((below_of_grown hg6 (Nat.le_of_lt g1)).mono hgb)) ?_
       clear hK K
       refine wpTree_fin ?_
       go_wp2_with (refine wpList_store_ownI hO6 (by rw [List.length_set]; exact hll) (i := K) (by omega) rfl _ _ rfl rfl rfl ?_; intro w7 hO7 hg7)
       have hbw7 : Below w.heap.size w w7 := own_step hO6 hg7 (own_step hO hg6 (bl_drew hbw))
       go_roundw
       case rel => exact ⟨t + 1, Z, swpL l (t + 1) K, by omega, by omega, by go_num, rfl, hXr, by rw [swpL_len]; exact hll, HD2.out, hO7, hbw7⟩
       case measure => simp [intOf]
      ·refine wpTree_br rfl rfl ?_ wpTree_stop
       intro K hK
       go_simp
       refine hK _ _ (Below.refl _ _).drew ?_
       clear hK K
       refine wpTree_alt ?_
       refine wpTree_br rfl rfl ?_ wpTree_stop
       intro K hK
       go_simp
       refine hK _ _ (Below.refl _ _).drew ?_
       clear hK K
       refine wpTree_take rfl rfl ?_
       intro K hK
       simp only [Array.getD_eq_getD_getElem?, List.getElem?_toArray, List.getElem?_cons_succ, List.getElem?_cons_zero, Option.getD_some]
       go_big_quiet_op
       go_big_quiet_on
       refine wpTree_alt ?_
       refine wpTree_br rfl rfl ?_ wpTree_stop
       intro K hK
       refine op_store_ownI hO hll (i := t + 1) (by omega) _ _ rfl rfl rfl ?_
       intro w6 hO6 hg6
       refine hK _ _ ((Below.refl _ _).drew.trans ((below_of_grown hg6 (Nat.le_of_lt g1)).mono hgb)) ?_
       clear hK K
       refine wpTree_fin ?_
       go_wp2_with (refine wpList_store_ownI hO6 (by rw [List.length_set]; exact hll) (i := K) (by omega) rfl _ _ rfl rfl rfl ?_; intro w7 hO7 hg7)
       have hbw7 : Below w.heap.size w w7 := own_step hO6 hg7 (own_step hO hg6 (bl_drew hbw))
       go_roundw
       case rel => exact ⟨t + 1, Z, swpL l (t + 1) K, by omega, by omega, by go_num, rfl, hXr, by rw [swpL_len]; exact hll, HD2.out, hO7, hbw7⟩
       case measure => simp [intOf]
     ·have HE : Hid (drawL key k = l) := by unfold Hid; rw [HD.out, show j - 1 = 0 by omega]; rfl
      have hlt0 : ((0 : Int) < (j : Int) - 1) = False := by simp; omega
      go_wp2
      go_ret
      exact ⟨_, rfl, by rw [HE.out]; exact hO, hbw⟩
theorem swpL_perm {l : List Int} {i k : Nat} (hi : i < l.length) (hk : k < l.length) : (swpL l i k).Perm l := by
 unfold swpL
 have e1 : l.getD k 0 = l[k] := by simp [List.getD, hk]
 have e2 : l.getD i 0 = l[i] := by simp [List.getD, hi]
 rw [e1, e2]
 exact List.set_set_perm hi hk
theorem drawF_perm : ∀ (t : Nat) (X : Int) (l : List Int), t + 1 ≤ l.length ∨ t = 0 → (drawF t X l).Perm l
 | 0, X, l, _ => by rw [drawF]
 | t + 1, X, l, h => by
  have hl : t + 2 ≤ l.length := by omega
  have hm := Int.emod_nonneg (drawX X) (show ((t : Int) + 2) ≠ 0 by omega)
  have hm2 := Int.emod_lt_of_pos (drawX X) (show (0 : Int) < (t : Int) + 2 by omega)
  rw [drawF]
  exact (drawF_perm t _ _ (.inl (by rw [swpL_len]; omega))).trans (swpL_perm (by omega) (by omega))
theorem iotaL_mem (x : Int) : ∀ n, x ∈ iotaL n ↔ 0 ≤ x ∧ x < n
 | 0 => by simp only [iotaL, List.not_mem_nil, false_iff]; omega
 | n + 1 => by
  rw [iotaL, List.mem_append, iotaL_mem x n, List.mem_singleton]
  omega
theorem drawL_perm (key : Int) (n : Nat) : (drawL key n).Perm (iotaL n) := drawF_perm _ _ _ (by rw [iotaL_len]; omega)
theorem drawL_in {key : Int} {n : Nat} {x : Int} (h : x ∈ drawL key n) : 0 ≤ x ∧ x < n := (iotaL_mem x n).1 ((drawL_perm key n).mem_iff.1 h)
theorem drawL_length (key : Int) (n : Nat) : (drawL key n).length = n := by rw [(drawL_perm key n).length_eq, iotaL_len]
end Go.Proofs.YtpcgeihemkhkjaaGreatDoor

/- The reference: degrees, legs, meshes, walked. Conditions: the net has no error. -/
import Derived.Test.YtpoaomdpcoaolaaC15
import Derived.Test.YtpoaomdpcoaolaaC07
import Derived.Test.YtpoaomdpcoaolaaC10
import Derived.Test.YtpoaomdpcoaolaaC09
import Derived.Test.YtpoaomdpcoaolaaC13
import Derived.Test.YtpoaomdpcoaolaaC16
import Derived.Test.YtpoaomdpcoaolaaC17
import Derived.Test.YtpoaomdpcoaolaaC18
namespace Go.Proofs.Ytpoaomdpcoaolaa
open Go.RowKit Go.ChangeMaps
set_option maxHeartbeats 4000000
set_option maxRecDepth 100000

attribute [local go_sem] Oper.semAt_some
theorem deg_take {l : List Bar} {k : Nat} (hk : k < l.length) (a : Knot) : (l.take (k + 1)).countP (atB a) = (l.take k).countP (atB a) + if atB a l[k] then 1 else 0 := by
  rw [List.take_succ_eq_append_getElem hk, List.countP_append, List.countP_cons, List.countP_nil]
  split <;> simp_all
theorem legC_take {l : List Bar} {K : List Knot} {k : Nat} (hk : k < K.length) (d : Nat) : legC l (K.take (k + 1)) d = legC l (K.take k ++ [K[k]]) d := by rw [List.take_succ_eq_append_getElem hk]
/-- the bars of a mesh, as the reference lists them -/
def mbL (x y : Int) : List Bar := [(x, y - 1, -1), (x, y - 1, 1), (x - 1, y, 1), (x + 1, y, -1)]
def nearM (x y : Int) : Prop := (-1000000 ≤ x ∧ x ≤ 1000000) ∧ (-1000000 ≤ y ∧ y ≤ 1000000)
theorem rbars_any (x y : Int) (hn : nearM x y) (w : World) : Calls Try.prog 20 #[.agg #[.int .i64 x, .int .i64 y]] w (RB w (mbL x y)) := by
  have hB := Blk.new w 53 #[.int .i64 x, .int .i64 y]
  have fB := hB.facts
  unfold nearM at hn
  go_enter Try.func20, Try.ntmps20
  go_wp2
  go_ret
  have q := own_new (w.alloc (.cells #[.int .i64 x, .int .i64 y] 53)) (base := w.heap.size) (by simp) (mbL x y) (by simp [mbL]) _ rfl 4 rfl
  rw [World.size_alloc] at q
  exact ⟨_, rfl, q, by (repeat (first | exact bl_refl | assumption | (apply bl_then; assumption) | refine bl_alloc ?_ _ | refine bl_drew ?_ | refine bl_drewN ?_ _))⟩
/-- a net has all bars of a mesh -/
def hasM (l : List Bar) (x y : Int) : Bool := hasb l (x, y - 1, -1) && (hasb l (x, y - 1, 1) && (hasb l (x - 1, y, 1) && hasb l (x + 1, y, -1)))
def hasMF (l : List Bar) : List Bar → Bool
  | [] => true
  | b :: r => hasb l b && hasMF l r
theorem hasMF_drop {l r : List Bar} {k : Nat} (hk : k < r.length) : hasMF l (r.drop k) = (hasb l r[k] && hasMF l (r.drop (k + 1))) := by
  rw [List.drop_eq_getElem_cons hk]; rfl
theorem hasMF_mb (l : List Bar) (x y : Int) : hasMF l (mbL x y) = hasM l x y := by simp [mbL, hasMF, hasM]
theorem mesh_has {l : List Bar} {x y s : Int} (hb : (x, y, s) ∈ l) (hs : s = 1 ∨ s = -1) : isMesh l (x, y, s) = (decide (s < 0) && hasM l x (y + 1)) := by
  rcases hs with rfl | rfl
  · rfl
  · unfold isMesh hasM
    simp only
    rw [show y + 1 - 1 = y by omega, show hasb l (x, y, -1) = true by unfold hasb; exact decide_eq_true hb]
    simp [Bool.and_assoc]
def RMR (w : World) (l : List Knot) (e : Ending) (w' : World) : Prop := ∃ v, e = .returned v ∧ OwMR w.heap.size w' v l ∧ Below w.heap.size w w'
theorem eqin_mesh (d : Nat) (x y x' y' : Int) (w : World) : (Op.equalIn (d + 2) 53 (.agg #[.int .i64 x, .int .i64 y]) (.agg #[.int .i64 x', .int .i64 y'])).run Try.prog w = .ok (beqK x y x' y') w := by
  rw [run_equalIn_struct w (d + 1) 53 _ _ (by kernel_rfl) (by kernel_rfl)]
  unfold beqK
  by_cases h1 : x = x' <;> by_cases h2 : y = y' <;> simp [go_sem, h1, h2]
@[go_sem high] theorem neq_mesh (x y x' y' : Int) (w : World) : (binOp .neq 53 (.agg #[.int .i64 x, .int .i64 y]) (.agg #[.int .i64 x', .int .i64 y'])).run Try.prog w = .ok (.bool (!beqK x y x' y')) w := by
  simp only [binOp]
  simp [Op.equal, Op.maxDepth, eqin_mesh 9998]
end Go.Proofs.Ytpoaomdpcoaolaa

/- Unions and their like without errors. Conditions: the nets have no error. -/
namespace Go.Proofs.Ytpoaomdpcoaolaa
open Go.RowKit Go.ChangeMaps
set_option maxHeartbeats 4000000
set_option maxRecDepth 100000

theorem wout_le (a b : List Bar) : (wout a b).length ≤ a.length := List.length_filter_le _ _
theorem put_zero {K : Bool → Bool → Bool} {a b L : List Bar} (h : twoE a b = 0) (hm : mergeL K a b = L) (hl : L.length ≤ 4096) : putE K a b = 0 ∧ putL K a b = L := by
  have h1 : putE K a b = 0 := by unfold putE; rw [if_neg (by simp [h]), hm, if_neg (by omega)]
  exact ⟨h1, by unfold putL; rw [if_pos h1, hm]⟩
theorem only_ok {α : Type} (l : List α) : onlyOk 0 l = l := rfl
@[go_sem] theorem eqCN (a b c d e : Int) (w : World) : (Op.equalIn 10000 33 (.agg #[.int .i64 a, .int .i64 b, .int .i64 c, .int .i64 d, .int .i64 e]) (.agg #[.int .i64 a, .int .i64 b, .int .i64 c, .int .i64 d, .int .i64 e])).run Try.prog w = .ok true w := by
  rw [run_equalIn_struct w 9999 33 _ _ (by kernel_rfl) (by kernel_rfl)]
  simp [go_sem]
theorem two_zero {a b : List Bar} (ha : netE a = 0) (hb : netE b = 0) : twoE a b = 0 := by unfold twoE; rw [ha, hb]; rfl
theorem aUnion {v u : Value} (a b : List Bar) (w : World) (h : SlB w v a) (h' : SlB w u b) (ha : netE a = 0) (hb : netE b = 0) (hl : a.length + b.length ≤ 4096) : Calls Try.prog 9 #[v, u] w (RBE w (setB (a ++ b)) 0) := by
  have hul : (setB (a ++ b)).length ≤ 4096 := by have := setB_len (a ++ b); simp at this; omega
  obtain ⟨e1, e2⟩ := put_zero (two_zero ha hb) (merge_union (netE_ok ha).sorted (netE_ok hb).sorted) hul
  have := apiUnion_any a b w h h'
  rwa [e1, e2] at this
theorem aMinus {v u : Value} (a b : List Bar) (w : World) (h : SlB w v a) (h' : SlB w u b) (ha : netE a = 0) (hb : netE b = 0) : Calls Try.prog 17 #[v, u] w (RBE w (wout a b) 0) := by
  obtain ⟨e1, e2⟩ := put_zero (two_zero ha hb) (merge_minus (netE_ok ha).sorted (netE_ok hb).sorted) (Nat.le_trans (wout_le a b) (netE_ok ha).len)
  have := apiMinus_any a b w h h'
  rwa [e1, e2] at this
theorem aNet {v : Value} (a : List Bar) (w : World) (h : SlB w v a) (ha : netE a = 0) : Calls Try.prog 15 #[v] w (RV w (.int .i64 0)) := by
  have := rnet_sl a w h
  rwa [ha] at this
theorem aSame {v u : Value} (a b : List Bar) (w : World) (h : SlB w v a) (h' : SlB w u b) (e : a = b) : Calls Try.prog 18 #[v, u] w (RV w (.bool true)) := by
  have := sameBars_any a b w h h'
  rwa [decide_eq_true e] at this
theorem netE_union {a b : List Bar} (ha : netE a = 0) (hb : netE b = 0) (hl : a.length + b.length ≤ 4096) : netE (setB (a ++ b)) = 0 := by
  refine netE_zero (fun x hx => ?_) (setB_sorted _) (by have := setB_len (a ++ b); simp at this; omega)
  rw [setB_mem, List.mem_append] at hx
  rcases hx with hx | hx
  · exact netE_bars ha x hx
  · exact netE_bars hb x hx
theorem netE_meet {a b : List Bar} (ha : netE a = 0) : netE (meetL a b) = 0 := netE_sub ha ((netE_ok ha).sorted.filter _) fun x hx => ((meet_mem a b x).1 hx).1
theorem netE_wout {a b : List Bar} (ha : netE a = 0) : netE (wout a b) = 0 := netE_sub ha ((netE_ok ha).sorted.filter _) fun x hx => ((wout_mem a b x).1 hx).1
theorem degN_small (l : List Bar) (k : Knot) : degN l k ≤ 2 * l.length := by
  have h1 : (endsL l).count k ≤ (endsL l).length := List.count_le_length
  rw [endsL_len] at h1
  exact h1
end Go.Proofs.Ytpoaomdpcoaolaa

/- The helpers of chapter 1's great statements, walked. Conditions: bounds. -/
namespace Go.Proofs.Ytpoaomdpcoaolaa
open Go.RowKit Go.ChangeMaps
set_option maxHeartbeats 4000000
set_option maxRecDepth 100000

attribute [local go_sem] Oper.semAt_some
/-! ## copies, numbers, near nets; a knot searched; the fixed example -/
theorem ccopy_any {v : Value} (l : List Bar) (w : World) (h : SlB w v l) (hlen : l.length ≤ 100000) : Calls Try.prog 8 #[v] w (RB w l) := by
  go_enter Try.func8, Try.ntmps8
  go_wp2_with (at_builtin; refine wpList_appBS (Own.empty bc 3 w _) (h.alloc _) rfl _ _ rfl rfl rfl (by simp; omega) (by simp) ?_; intro v2 w2 hown2 hgr2)
  have hb2 : Below w.heap.size w w2 := bl_grown hgr2 (bl_alloc bl_refl _) fun k hk => by simp [Value.ownBlock] at hk; omega
  go_ret
  exact ⟨_, rfl, by simpa using hown2, hb2⟩
theorem ccount_any {v : Value} (l : List Bar) (w : World) (h : SlB w v l) (hE : netE l = 0) (hlen : l.length ≤ 100000) : Calls Try.prog 10 #[v] w (RV w (.tuple #[.agg (cntA l), .bool true])) := by
  have m1 := fun W z (q : SlB W z l) => apiCount_any l W q
  rw [hE] at m1
  obtain ⟨kn, bn, mn, pn, hn, hN⟩ := nums_of hE
  rw [hN.cnt] at m1 ⊢
  clear hN hE
  have hB := Blk.new w 33 zer5
  go_enter Try.func10, Try.ntmps10
  go_wp2_with fail
  refine (ccopy_any l _ (h.below (by (repeat (first | exact bl_refl | assumption | (apply bl_then; assumption) | refine bl_alloc ?_ _ | refine bl_drew ?_ | refine bl_drewN ?_ _)))) hlen).mono ?_
  rintro e w1 ⟨v1, rfl, hC1, hb1⟩
  go_wp2_with fail
  refine (m1 _ _ (hC1.rd bc_len)).mono ?_
  rintro e w2 ⟨rfl, hb2⟩
  have hB2 := hB.below (show Below _ _ w2 by (repeat (first | exact bl_refl | assumption | (apply bl_then; assumption) | refine bl_alloc ?_ _ | refine bl_drew ?_ | refine bl_drewN ?_ _)))
  have hbw2 : Below w.heap.size w w2 := by (repeat (first | exact bl_refl | assumption | (apply bl_then; assumption) | refine bl_alloc ?_ _ | refine bl_drew ?_ | refine bl_drewN ?_ _))
  go_wp2_with (first | (refine wpList_store_blk (Blk.new w2 33 zer5) rfl _ _ _ rfl rfl rfl (by rfl) (by kernel_rfl) (by kernel_rfl) ?_; intro w3 hD3 hc3; have hb3 : Below w2.heap.size w2 w3 := ((Chg.of_below (bl_alloc bl_refl _)).trans hc3).below (by simp) (Nat.le_refl _); have hbw3 := bl_then hb3 hbw2; have hB3 := hB2.below hb3; have fD3 := hD3.facts) | (refine wpList_store_blk hB3 rfl _ _ _ rfl rfl rfl (by rfl) (by kernel_rfl) (by kernel_rfl) ?_; intro w4 hR4 hc4; have fR4 := hR4.facts))
  have hb4 : Below w.heap.size w w4 := ((Chg.of_below hbw3).trans (hc4.mono (S' := [w.heap.size]) (by simp))).below (by simp) (Nat.le_refl _)
  refine bodyPost_ret (v := .tuple #[.agg #[.int .i64 kn, .int .i64 bn, .int .i64 mn, .int .i64 pn, .int .i64 hn], .bool true]) (by simp [results, Try.results10, go_sem, fR4]) rfl ?_
  exact ⟨rfl, hb4⟩
def hask (l : List Knot) (k : Knot) : Bool := decide (k ∈ l)
theorem hask_drop {l : List Knot} {k : Nat} (h : k < l.length) (q : Knot) : hask (l.drop k) q = (beqK l[k].1 l[k].2 q.1 q.2 || hask (l.drop (k + 1)) q) := by
  rw [List.drop_eq_getElem_cons h, beqK_knot]
  unfold hask
  rw [Bool.eq_iff_iff, Bool.or_eq_true, decide_eq_true_eq, decide_eq_true_eq, decide_eq_true_eq, List.mem_cons]
  exact ⟨fun h => h.imp Eq.symm id, fun h => h.imp Eq.symm id⟩
theorem rhask_any {v : Value} (l : List Knot) (x y : Int) (w : World) (h : SlK w v l) : Calls Try.prog 12 #[v, .agg #[.int .i64 x, .int .i64 y]] w (RV w (.bool (hask l (x, y)))) := by
  obtain ⟨A, c, rfl, hlc, hcm, h⟩ := h
  have hl : l.length ≤ maxLen := Nat.le_trans hlc hcm
  unfold maxLen at hl
  have hB := Blk.new w 30 #[.int .i64 x, .int .i64 y]
  go_enter Try.func12, Try.ntmps12
  go_wp2
  go_loopw [5] (fun i wr => ∃ k : Nat, k ≤ l.length ∧ i = .int .i64 k ∧ Hid (hask l (x, y) = hask (l.drop k) (x, y)) ∧ Blk wr w.heap.size 30 #[.int .i64 x, .int .i64 y] ∧ Below w.heap.size w wr) (fun i _ => l.length - (intOf i).toNat)
  case atStart => exact ⟨0, Nat.zero_le _, rfl, by simp [Hid], hB, by (repeat (first | exact bl_refl | assumption | (apply bl_then; assumption) | refine bl_alloc ?_ _ | refine bl_drew ?_ | refine bl_drewN ?_ _))⟩
  case round =>
    clear hB
    obtain ⟨k, hk, rfl, H, hB, hbw⟩ := hrel
    by_cases hlt : k < l.length
    · have hr := h.below hbw
      obtain ⟨b, off, rfl, hb, e0, e1⟩ := hr.knot hlt
      have fB := hB.facts
      have HD := Lib.hid (hask_drop hlt (x, y))
      obtain ⟨g, hg⟩ : ∃ g, beqK l[k].1 l[k].2 x y = g := ⟨_, rfl⟩
      cases g
      · go_wp2
        refine wp_region_ords [0, 1, 2, 3, 4, 5] [] [] (by kernel_rfl) (by kernel_rfl) (fun d _ _ _ _ h => by cases d <;> exact h) ?_
        simp only [List.map_cons, List.map_nil, List.getD_cons_zero, List.getD_cons_succ]
        repeat (go_big_quiet_step (fail))
        refine wpQuiet_nil ?_
        refine wpMid_nil ?_
        go_wp2
        go_roundw
        case rel => exact ⟨k + 1, by omega, by go_num, by rw [H.out, HD.out, hg]; rfl, hB.below (by (repeat (first | exact bl_refl | assumption | (apply bl_then; assumption) | refine bl_alloc ?_ _ | refine bl_drew ?_ | refine bl_drewN ?_ _))), by (repeat (first | exact bl_refl | assumption | (apply bl_then; assumption) | refine bl_alloc ?_ _ | refine bl_drew ?_ | refine bl_drewN ?_ _))⟩
        case measure => simp [intOf]; omega
      · go_wp2
        refine wp_region_ords [0, 1, 2, 3, 4, 5] [] [] (by kernel_rfl) (by kernel_rfl) (fun d _ _ _ _ h => by cases d <;> exact h) ?_
        simp only [List.map_cons, List.map_nil, List.getD_cons_zero, List.getD_cons_succ]
        repeat (go_big_quiet_step (fail))
        refine wpQuiet_nil ?_
        refine wpMid_nil ?_
        go_wp2
        go_ret
        exact ⟨ret_bool (by rw [H.out, HD.out, hg]; rfl), by (repeat (first | exact bl_refl | assumption | (apply bl_then; assumption) | refine bl_alloc ?_ _ | refine bl_drew ?_ | refine bl_drewN ?_ _))⟩
    · have hkl : k = l.length := by omega
      go_wp2
      go_ret
      refine ⟨ret_bool ?_, by (repeat (first | exact bl_refl | assumption | (apply bl_then; assumption) | refine bl_alloc ?_ _ | refine bl_drew ?_ | refine bl_drewN ?_ _))⟩
      rw [H.out, hkl, List.drop_length]; rfl
def oneM : List Bar := [(1, 1, -1), (1, 1, 1), (0, 2, 1), (2, 2, -1)]
def twoM : List Bar := [(3, 1, -1), (3, 1, 1), (2, 2, 1), (4, 2, -1)]
def bothM : List Bar := [(1, 1, -1), (1, 1, 1), (3, 1, -1), (3, 1, 1), (0, 2, 1), (2, 2, -1), (2, 2, 1), (4, 2, -1)]
theorem ck1 : setB (mbL 1 2) = oneM := by kernel_rfl
theorem ck2 : setB (mbL 3 2) = twoM := by kernel_rfl
theorem ck3 : netE oneM = 0 := by kernel_rfl
theorem ck4 : netE twoM = 0 := by kernel_rfl
theorem ck5 : netE bothM = 0 := by kernel_rfl
theorem ck6 : setB (oneM ++ twoM) = bothM := by kernel_rfl
theorem ck7 : (partsL oneM).length = 1 := by
  unfold partsL
  rw [show oneM.length = 3 + 1 from rfl, prt_one (b0 := (1, 1, -1)) rfl (by decide +kernel) 3 (by decide)]
  rfl
theorem ck8 : (partsL bothM).length = 1 := by
  unfold partsL
  rw [show bothM.length = 7 + 1 from rfl, prt_one (b0 := (1, 1, -1)) rfl (by decide +kernel) 7 (by decide)]
  rfl
theorem ck9 : (holeK oneM).length = 4 := by kernel_rfl
theorem ck10 : (holeK bothM).length = 7 := by kernel_rfl
theorem ck11 : (meshL oneM oneM).length = 1 := by kernel_rfl
theorem ck12 : (meshL bothM bothM).length = 2 := by kernel_rfl
theorem ck13 : cntA oneM = #[.int .i64 4, .int .i64 4, .int .i64 1, .int .i64 1, .int .i64 0] := by
  unfold cntA
  rw [if_pos ck3, ck9, ck11, ck7]
  rfl
theorem ck14 : cntA bothM = #[.int .i64 7, .int .i64 8, .int .i64 2, .int .i64 1, .int .i64 0] := by
  unfold cntA
  rw [if_pos ck5, ck10, ck12, ck8]
  rfl
theorem corkMesh_any (w : World) : Calls Try.prog 6 #[] w (RV w (.bool true)) := by
  have b1 := fun W => rbars_any 1 2 (by unfold nearM; omega) W
  have b2 := fun W => rbars_any 3 2 (by unfold nearM; omega) W
  have s1 := fun W z (q : SlB W z (mbL 1 2)) => rsorted_any (mbL 1 2) W q (by decide)
  have s2 := fun W z (q : SlB W z (mbL 3 2)) => rsorted_any (mbL 3 2) W q (by decide)
  rw [ck1] at s1
  rw [ck2] at s2
  have c1 := fun W z (q : SlB W z oneM) => apiCount_any oneM W q
  have u1 := fun W z z' (q : SlB W z oneM) (q' : SlB W z' twoM) => aUnion oneM twoM W q q' ck3 ck4 (by decide)
  have c2 := fun W z (q : SlB W z bothM) => apiCount_any bothM W q
  rw [ck3, ck13] at c1
  rw [ck6] at u1
  rw [ck5, ck14] at c2
  go_enter Try.func6, Try.ntmps6
  go_wp2_with fail
  refine (b1 _).mono ?_
  rintro e w1 ⟨v1, rfl, hO1, hb1⟩
  go_wp2_with fail
  refine (s1 _ _ (hO1.rd bc_len)).mono ?_
  rintro e w2 ⟨v2, rfl, hO2, hb2⟩
  go_wp2_with fail
  refine (b2 _).mono ?_
  rintro e w3 ⟨v3, rfl, hO3, hb3⟩
  go_wp2_with fail
  refine (s2 _ _ (hO3.rd bc_len)).mono ?_
  rintro e w4 ⟨v4, rfl, hO4, hb4⟩
  go_wp2_with fail
  refine (c1 _ _ ((hO2.rd bc_len).below (by (repeat (first | exact bl_refl | assumption | (apply bl_then; assumption) | refine bl_alloc ?_ _ | refine bl_drew ?_ | refine bl_drewN ?_ _))))).mono ?_
  rintro e w5 ⟨rfl, hb5⟩
  have hA5 := (hO2.rd bc_len).below (show Below w2.heap.size w2 w5 by (repeat (first | exact bl_refl | assumption | (apply bl_then; assumption) | refine bl_alloc ?_ _ | refine bl_drew ?_ | refine bl_drewN ?_ _)))
  have hD5 := (hO4.rd bc_len).below hb5
  have hbw5 : Below w.heap.size w w5 := by (repeat (first | exact bl_refl | assumption | (apply bl_then; assumption) | refine bl_alloc ?_ _ | refine bl_drew ?_ | refine bl_drewN ?_ _))
  clear hb1 hb2 hb3 hb4 hb5 hO1 hO2 hO3 hO4
  go_wp2_with (refine wpList_store_blk (Blk.new w5 33 zer5) rfl _ _ _ rfl rfl rfl (by rfl) (by kernel_rfl) (by kernel_rfl) ?_; intro w6 hX6 hc6)
  have hb6 : Below w5.heap.size w5 w6 := ((Chg.of_below (bl_alloc bl_refl _)).trans hc6).below (by simp) (Nat.le_refl _)
  have hA6 := hA5.below hb6
  have hD6 := hD5.below hb6
  have hbw6 := bl_then hb6 hbw5
  clear hc6 hb6 hbw5 hA5 hD5
  go_wp2_with fail
  refine (u1 _ _ _ (hA6.below (by (repeat (first | exact bl_refl | assumption | (apply bl_then; assumption) | refine bl_alloc ?_ _ | refine bl_drew ?_ | refine bl_drewN ?_ _)))) (hD6.below (by (repeat (first | exact bl_refl | assumption | (apply bl_then; assumption) | refine bl_alloc ?_ _ | refine bl_drew ?_ | refine bl_drewN ?_ _))))).mono ?_
  rintro e w7 ⟨v7, rfl, hO7, hb7⟩
  go_wp2_with fail
  refine (c2 _ _ (hO7.rd bc_len)).mono ?_
  rintro e w8 ⟨rfl, hb8⟩
  have hX8 := hX6.below (show Below w6.heap.size w6 w8 by (repeat (first | exact bl_refl | assumption | (apply bl_then; assumption) | refine bl_alloc ?_ _ | refine bl_drew ?_ | refine bl_drewN ?_ _)))
  have hbw8 : Below w.heap.size w w8 := by (repeat (first | exact bl_refl | assumption | (apply bl_then; assumption) | refine bl_alloc ?_ _ | refine bl_drew ?_ | refine bl_drewN ?_ _))
  clear hb7 hb8 hO7 hX6 hA6 hD6 hbw6
  go_wp2_with (refine wpList_store_blk (Blk.new w8 33 zer5) rfl _ _ _ rfl rfl rfl (by rfl) (by kernel_rfl) (by kernel_rfl) ?_; intro w9 hY9 hc9; have hb9 : Below w8.heap.size w8 w9 := ((Chg.of_below (bl_alloc bl_refl _)).trans hc9).below (by simp) (Nat.le_refl _); have fX := (hX8.below hb9).facts; have fY := hY9.facts; clear hc9)
  go_ret
  exact ⟨rfl, bl_then hb9 hbw8⟩
/-- a bar lies within 200 units from the middle -/
def nearP (b : Bar) : Prop := (-200 ≤ b.1 ∧ b.1 ≤ 200) ∧ (-200 ≤ b.2.1 ∧ b.2.1 ≤ 200)
instance (b : Bar) : Decidable (nearP b) := inferInstanceAs (Decidable (_ ∧ _))
def cnetB (l : List Bar) (n : Int) : Bool := decide ((l.length : Int) ≤ n) && (netE l == 0 && l.all fun b => decide (nearP b))
theorem cnetB_true {l : List Bar} {n : Int} : cnetB l n = true ↔ (l.length : Int) ≤ n ∧ netE l = 0 ∧ ∀ b ∈ l, nearP b := by
  unfold cnetB
  simp
theorem cnet_any {v : Value} (l : List Bar) (w : World) (h : SlB w v l) : Calls Try.prog 5 #[v, .int .i64 20] w (RV w (.bool (cnetB l 20))) := by
  have r1 := fun W (hb : Below w.heap.size w W) => rnet_sl l W (h.below hb)
  obtain ⟨A, c, rfl, hlc, hcm, hr⟩ := h
  have hl : l.length ≤ maxLen := Nat.le_trans hlc hcm
  unfold maxLen at hl
  have hno : (¬ ((l.length : Int) ≤ 20 ∧ netE l = 0 ∧ ∀ b ∈ l, nearP b)) → Hid (cnetB l 20 = false) := fun q => by
    unfold Hid
    rw [Bool.eq_false_iff]
    exact fun e => q (cnetB_true.1 e)
  by_cases h1 : 20 < l.length
  · have HN := hno (by omega)
    have t1 : (20 < (l.length : Int)) = True := eq_true (by omega)
    clear h1 hno
    go_enter Try.func5, Try.ntmps5
    go_wp2
    go_ret
    exact ⟨by rw [HN.out]; rfl, by (repeat (first | exact bl_refl | assumption | (apply bl_then; assumption) | refine bl_alloc ?_ _ | refine bl_drew ?_ | refine bl_drewN ?_ _))⟩
  have t1 : (20 < (l.length : Int)) = False := eq_false (by omega)
  by_cases hE : netE l = 0
  rotate_left
  · have HN := hno (fun q => hE q.2.1)
    have t2 : (netE l != 0) = true := by simp [hE]
    clear h1 hE hno
    go_enter Try.func5, Try.ntmps5
    go_wp2_with fail
    refine (r1 _ (by (repeat (first | exact bl_refl | assumption | (apply bl_then; assumption) | refine bl_alloc ?_ _ | refine bl_drew ?_ | refine bl_drewN ?_ _)))).mono ?_
    rintro e w1 ⟨rfl, hb1⟩
    go_wp2
    go_ret
    exact ⟨by rw [HN.out]; rfl, by (repeat (first | exact bl_refl | assumption | (apply bl_then; assumption) | refine bl_alloc ?_ _ | refine bl_drew ?_ | refine bl_drewN ?_ _))⟩
  have HE := Lib.hid hE
  have HNO := Lib.hid hno
  have l20 : l.length ≤ 20 := by omega
  rw [hE] at r1
  clear h1 hE hno
  go_enter Try.func5, Try.ntmps5
  go_wp2_with fail
  refine (r1 _ (by (repeat (first | exact bl_refl | assumption | (apply bl_then; assumption) | refine bl_alloc ?_ _ | refine bl_drew ?_ | refine bl_drewN ?_ _)))).mono ?_
  rintro e w1 ⟨rfl, hb1⟩
  go_wp2
  go_loopw [18] (fun i wr => ∃ k : Nat, k ≤ l.length ∧ i = .int .i64 k ∧ Hid (∀ b ∈ l.take k, nearP b) ∧ Below w1.heap.size w1 wr) (fun i _ => l.length - (intOf i).toNat)
  case atStart => exact ⟨0, Nat.zero_le _, rfl, (fun b hb => by simp at hb), by (repeat (first | exact bl_refl | assumption | (apply bl_then; assumption) | refine bl_alloc ?_ _ | refine bl_drew ?_ | refine bl_drewN ?_ _))⟩
  case round =>
    obtain ⟨k, hk, rfl, H, hbr⟩ := hrel
    obtain ⟨wo, rfl⟩ : ∃ x, x = wr := ⟨_, rfl⟩
    have hbwo := bl_then hbr hb1
    by_cases hlt : k < l.length
    · have hro := hr.below hbwo
      obtain ⟨b, off, rfl, hb, e0, e1, e2⟩ := hro.bar hlt
      obtain ⟨⟨bx, bY, bs⟩, hx⟩ : ∃ z, l[k] = z := ⟨_, rfl⟩
      have HT : Hid (l.take (k + 1) = l.take k ++ [(bx, bY, bs)]) := by unfold Hid; rw [List.take_succ_eq_append_getElem hlt, hx]
      have HM : Hid ((bx, bY, bs) ∈ l) := by unfold Hid; rw [← hx]; exact List.getElem_mem hlt
      rw [hx] at e0 e1 e2
      simp only at e0 e1 e2
      clear hx
      have hN0 := Blk.new wo 50 #[.int .i64 bx, .int .i64 bY, .int .i64 bs]
      go_upto_region 6 with fail
      obtain ⟨w6, hw6⟩ : ∃ X, wo.alloc (.cells #[.int .i64 bx, .int .i64 bY, .int .i64 bs] 50) = X := ⟨_, rfl⟩
      have hb6 : Below wo.heap.size wo w6 := by rw [← hw6]; exact bl_alloc bl_refl _
      rw [hw6] at hN0 ⊢
      have fhN0 := hN0.facts
      clear hw6 e0 e1 e2 hro
      have hbad : ¬ nearP (bx, bY, bs) → Hid (cnetB l 20 = false) := fun q => HNO.out fun e => q (e.2.2 _ HM.out)
      by_cases c1 : bx < -200
      · have HF := hbad (fun q => by have := q.1; simp only at this; omega)
        have t3 : (bx < -200) = True := eq_true c1
        clear c1 hbad
        go_wp2
        go_ret
        exact ⟨by rw [HF.out]; rfl, by (repeat (first | exact bl_refl | assumption | (apply bl_then; assumption) | refine bl_alloc ?_ _ | refine bl_drew ?_ | refine bl_drewN ?_ _))⟩
      by_cases c2 : 200 < bx
      · have HF := hbad (fun q => by have := q.1; simp only at this; omega)
        have t3 : (bx < -200) = False := eq_false c1
        have t4 : (200 < bx) = True := eq_true c2
        clear c1 c2 hbad
        go_wp2
        go_ret
        exact ⟨by rw [HF.out]; rfl, by (repeat (first | exact bl_refl | assumption | (apply bl_then; assumption) | refine bl_alloc ?_ _ | refine bl_drew ?_ | refine bl_drewN ?_ _))⟩
      by_cases c3 : bY < -200
      · have HF := hbad (fun q => by have := q.2; simp only at this; omega)
        have t3 : (bx < -200) = False := eq_false c1
        have t4 : (200 < bx) = False := eq_false c2
        have t5 : (bY < -200) = True := eq_true c3
        clear c1 c2 c3 hbad
        go_wp2
        go_ret
        exact ⟨by rw [HF.out]; rfl, by (repeat (first | exact bl_refl | assumption | (apply bl_then; assumption) | refine bl_alloc ?_ _ | refine bl_drew ?_ | refine bl_drewN ?_ _))⟩
      by_cases c4 : 200 < bY
      · have HF := hbad (fun q => by have := q.2; simp only at this; omega)
        have t3 : (bx < -200) = False := eq_false c1
        have t4 : (200 < bx) = False := eq_false c2
        have t5 : (bY < -200) = False := eq_false c3
        have t6 : (200 < bY) = True := eq_true c4
        clear c1 c2 c3 c4 hbad
        go_wp2
        go_ret
        exact ⟨by rw [HF.out]; rfl, by (repeat (first | exact bl_refl | assumption | (apply bl_then; assumption) | refine bl_alloc ?_ _ | refine bl_drew ?_ | refine bl_drewN ?_ _))⟩
      have HG : Hid (nearP (bx, bY, bs)) := ⟨⟨by simp only; omega, by simp only; omega⟩, by simp only; omega, by simp only; omega⟩
      have t3 : (bx < -200) = False := eq_false c1
      have t4 : (200 < bx) = False := eq_false c2
      have t5 : (bY < -200) = False := eq_false c3
      have t6 : (200 < bY) = False := eq_false c4
      clear c1 c2 c3 c4 hbad
      go_wp2
      go_roundw
      case rel => exact ⟨k + 1, by omega, by go_num, (by intro z hz; rw [HT.out, List.mem_append] at hz; rcases hz with hz | hz; exact H.out z hz; obtain rfl := List.mem_singleton.1 hz; exact HG.out), bl_then hb6 hbr⟩
      case measure => simp [intOf]; omega
    · obtain rfl : k = l.length := by omega
      have HY : Hid (cnetB l 20 = true) := cnetB_true.2 ⟨by omega, HE.out, by have := H.out; rwa [List.take_length] at this⟩
      go_wp2
      go_ret
      exact ⟨by rw [HY.out]; rfl, by (repeat (first | exact bl_refl | assumption | (apply bl_then; assumption) | refine bl_alloc ?_ _ | refine bl_drew ?_ | refine bl_drewN ?_ _))⟩
end Go.Proofs.Ytpoaomdpcoaolaa

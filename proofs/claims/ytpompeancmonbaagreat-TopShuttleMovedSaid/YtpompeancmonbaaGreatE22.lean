/- Equal neighbours in a row of bars taken away, and the bars that a walk passes, of the program, walked. Conditions: a row of the call's own; slices that read as lists. -/
import Derived.Test.YtpompeancmonbaaGreatE21
import Derived.Test.YtpompeancmonbaaGreatE17
namespace Go.Proofs.YtpompeancmonbaaGreat
open Go.RowKit Go.ChangeMaps
set_option maxHeartbeats 4000000
set_option maxRecDepth 100000

/-! ## a bar stored into a row of the call's own -/
theorem flat_set3 (x y s : Int) : ∀ (l : List Bar) (i : Nat), i < l.length → (((l.flatMap bc).set (i * 3) (.int .i64 x)).set (i * 3 + 1) (.int .i64 y)).set (i * 3 + 2) (.int .i64 s) = (l.set i (x, y, s)).flatMap bc
  | [], i, h => by simp at h
  | b :: r, 0, _ => by simp [bc]
  | b :: r, i + 1, h => by
    have ih := flat_set3 x y s r i (by simpa using h)
    have e0 : (i + 1) * 3 = i * 3 + 3 := by omega
    have e1 : (i + 1) * 3 + 1 = i * 3 + 1 + 3 := by omega
    have e2 : (i + 1) * 3 + 2 = i * 3 + 2 + 3 := by omega
    rw [e1, e2, e0, List.flatMap_cons, List.set_cons_succ, List.flatMap_cons, ← ih]
    simp only [bc, List.cons_append, List.nil_append, List.set_cons_succ]
section
variable {P : Program} {w : World} {base g cap : Nat} {l : List Bar}
theorem own_set {e : TypeId} (h : Own bc 3 base e w (.slice (some ⟨g, 0, none⟩) l.length cap) l) {i : Nat} (hi : i < l.length) (x y s : Int) :
    Own bc 3 base e (w.setCells g (i * 3) [.int .i64 x, .int .i64 y, .int .i64 s]) (.slice (some ⟨g, 0, none⟩) l.length cap) (l.set i (x, y, s)) ∧ w.grownBy (w.setCells g (i * 3) [.int .i64 x, .int .i64 y, .int .i64 s]) (some g) := by
  obtain ⟨h1, g1⟩ := World.ownsRow.stored h (i * 3) (.int .i64 x)
  obtain ⟨h2, g2⟩ := World.ownsRow.stored h1 (i * 3 + 1) (.int .i64 y)
  obtain ⟨h3, g3⟩ := World.ownsRow.stored h2 (i * 3 + 1 + 1) (.int .i64 s)
  rw [flat_set3 x y s l i hi] at h3
  refine ⟨?_, (g1.trans g2).trans g3⟩
  unfold Own
  rw [List.length_set]
  exact h3
theorem own_there {e : TypeId} (h : Own bc 3 base e w (.slice (some ⟨g, 0, none⟩) l.length cap) l) {i : Nat} (hi : i < l.length) : w.there g (i * 3) 3 := by
  obtain ⟨hl, hc⟩ := h
  rcases hc with ⟨hv, _⟩ | ⟨g', cap', cur, hv, hg, hh, hnc, hcm, hcs, htk⟩
  · cases hv
  · obtain ⟨rfl, rfl⟩ : g = g' ∧ cap = cap' := by simpa using hv
    intro j hj
    refine ⟨?_, by simp [World.frozen?, hh]⟩
    have : i * 3 + j < cur.size := by rw [hcs]; omega
    simp [World.cell?, hh, this]
end
theorem wpList_store_own {ops : Array Oper} {rest : List Oper} {op : Oper} {a : Act} {Q : Exit → Act → World → Prop} {w : World} {base g cap n : Nat} {l : List Bar} (h : OwB base w (.slice (some ⟨g, 0, none⟩) n cap) l) (hn : l.length = n) {i : Nat} (hi : i < n) (hgd : op.guard = none) (x y : Operand) (ho : op.op = .store 46 x y)
    {p q s : Int} (hx : a.eval x = .pointer (some ⟨g, i * 3, none⟩)) (hy : a.eval y = .agg #[.int .i64 p, .int .i64 q, .int .i64 s])
    (hK : ∀ W', OwB base W' (.slice (some ⟨g, 0, none⟩) n cap) (l.set i (p, q, s)) → w.grownBy W' (some g) → wpList Tryz.prog ops Q rest (a.put op.dst undef) W') : wpList Tryz.prog ops Q (op :: rest) a w := by
  subst hn
  refine wpList_plain hgd fun K hK' => ?_
  obtain ⟨h1, h2⟩ := own_set h hi p q s
  have hr := run_storeVar_mid (P := Tryz.prog) w g (i * 3) 46 #[.int .i64 p, .int .i64 q, .int .i64 s] (own_there h hi) (by kernel_rfl) (by kernel_rfl)
  unfold Oper.wp execOp
  simp only [ho, hx, hy, Instr.storeAt, Instr.sureAddr, Sem.run_bind, Sem.run_pure, Result.andThen_ok, hr]
  exact hK' _ _ (hK _ h1 h2)
theorem run_clr {w : World} {base g cap n : Nat} {l : List Bar} (h : OwB base w (.slice (some ⟨g, 0, none⟩) n cap) l) (hn : l.length = n) (k m c : Nat) (hk : k + m ≤ n) (hm : 0 < m) (ty : TypeId) :
    ∃ W', (Builtin.clear_ #[22] ty #[.slice (some ⟨g, k * 3, none⟩) m c]).run Tryz.prog w = .ok (.tuple #[]) W' ∧ w.grownBy W' (some g) := by
  subst hn
  obtain ⟨hl, hc⟩ := h
  rcases hc with ⟨hv, _⟩ | ⟨g', cap', cur, hv, hg, hh, hnc, hcm, hcs, htk⟩
  · cases hv
  · obtain ⟨rfl, rfl⟩ : g = g' ∧ cap = cap' := by simpa using hv
    have hz : (zeroValue 46).run Tryz.prog w = .ok (.agg #[.int .i64 0, .int .i64 0, .int .i64 0]) w := by kernel_rfl
    have hsz : (Builtin.zeroCells (Value.agg #[.int .i64 0, .int .i64 0, .int .i64 0]).cells m).toList.length = m * 3 := by simp [Builtin.zeroCells, Value.cells]
    have h1 : ∀ v ∈ (Builtin.zeroCells (Value.agg #[.int .i64 0, .int .i64 0, .int .i64 0]).cells m).toList, v.oneCell' = true := by
      intro v hv
      simp only [Builtin.zeroCells, Value.cells, Array.toList_map, List.mem_map] at hv
      obtain ⟨i, _, rfl⟩ := hv
      have : i % 3 < 3 := Nat.mod_lt _ (by decide)
      show (#[Value.int .i64 0, Value.int .i64 0, Value.int .i64 0][i % 3]!).oneCell' = true
      match i % 3, this with
      | 0, _ => rfl
      | 1, _ => rfl
      | 2, _ => rfl
    obtain ⟨m, rfl⟩ : ∃ m', m = m' + 1 := ⟨m - 1, by omega⟩
    obtain ⟨cs, hst⟩ : ∃ cs, (storeCells ⟨g, k * 3, none⟩ (Builtin.zeroCells (Value.agg #[.int .i64 0, .int .i64 0, .int .i64 0]).cells (m + 1)).toList 0).run Tryz.prog w = .ok () (w.setRow g cs) :=
      ⟨_, run_storeCells_at Tryz.prog g (k * 3) 46 _ 0 cur w hh (by rw [hsz, hcs]; omega) h1⟩
    refine ⟨w.setRow g cs, ?_, rfl, rfl, rfl, by simp [World.setRow], fun k hk hne => setRow_other w g k _ (fun e => hne (by simp [e]))⟩
    unfold Builtin.clear_
    simp [run_underlying bar_elem.und, hz, hst]

/-! ## equal neighbours -/
def adjDup : List Bar → Bool
  | a :: b :: r => decide (b = a) || adjDup (b :: r)
  | _ => false
theorem adjDup_drop {l : List Bar} {k : Nat} (hk : k + 1 < l.length) : adjDup (l.drop k) = (decide (l[k + 1] = l[k]) || adjDup (l.drop (k + 1))) := by
  rw [List.drop_eq_getElem_cons (show k < l.length by omega), List.drop_eq_getElem_cons hk]; rfl
theorem adjDup_end {l : List Bar} {k : Nat} (hk : l.length ≤ k + 1) : adjDup (l.drop k) = false := by
  rcases Nat.lt_or_ge k l.length with h | h
  · rw [List.drop_eq_getElem_cons h, List.drop_eq_nil_of_le (by omega)]; rfl
  · rw [List.drop_eq_nil_of_le h]; rfl
theorem gb_of {w W : World} {row : Option Nat} (h : Below w.heap.size w W) : w.grownBy W row := ⟨h.os, h.tape, h.output, h.size, fun k hk _ => h.block k hk⟩
theorem own_cells {w : World} {base g cap n : Nat} {l : List Bar} (h : OwB base w (.slice (some ⟨g, 0, none⟩) n cap) l) {k : Nat} (hk : k < l.length) (_ : l.length = n) : g < w.heap.size ∧
    w.cell? ⟨g, k * 3, none⟩ = some (.int .i64 l[k].1) ∧ w.cell? ⟨g, k * 3 + 1, none⟩ = some (.int .i64 l[k].2.1) ∧ w.cell? ⟨g, k * 3 + 2, none⟩ = some (.int .i64 l[k].2.2) := by
  obtain ⟨A, c, he, _, _, hr⟩ := h.rd bc_len
  obtain rfl := (Value.slice.inj he).1
  obtain ⟨h0, h1, h2, h3⟩ := hr.barAt hk
  exact ⟨h0, by simpa using h1, by simpa using h2, by simpa using h3⟩
theorem compact_any {v : Value} {base : Nat} (l : List Bar) (w : World) (h : OwB base w v l) (hlen : l.length ≤ 100000) : Calls Tryz.prog 66 #[v] w
    fun e w' => ∃ A n c, e = .returned (.slice A n c) ∧ decide (n < l.length) = adjDup l ∧ w.grownBy w' v.ownBlock := by
  by_cases hsm : l.length < 2
  · have hd : Hid (adjDup l = false) := adjDup_end (k := 0) (by omega)
    have hs := Lib.hid hsm
    have hs2 : ((l.length : Int) < 2) = True := by simp; omega
    obtain ⟨A, c, rfl⟩ := h.shape
    clear hsm
    go_enter Tryz.func66, Tryz.ntmps66
    go_wp2
    go_ret
    exact ⟨A, l.length, c, rfl, by rw [hd.out]; simp, World.grownBy.refl _ _⟩
  · obtain ⟨g, cap, cur, rfl, hgb, hnc⟩ : ∃ g cap cur, v = .slice (some ⟨g, 0, none⟩) l.length cap ∧ w.heap[g]? = some (.cells cur 46 (0, 0)) ∧ l.length ≤ cap := by
      rcases h.2 with ⟨_, hn⟩ | ⟨g, cap, cur, rfl, hg, hh, hnc, _⟩
      · omega
      · exact ⟨g, cap, cur, rfl, hh, hnc⟩
    have hs2 : ((l.length : Int) < 2) = False := by simp; omega
    obtain ⟨n, hn⟩ : ∃ n, l.length = n := ⟨_, rfl⟩
    have h2n : 2 ≤ n := by omega
    rw [hn] at h hlen hs2 hnc ⊢
    have hgl : g < w.heap.size := (Array.getElem?_eq_some_iff.1 hgb).1
    have HD0 : Hid (adjDup l = adjDup (l.drop 0)) := rfl
    clear hgb hsm
    go_enter Tryz.func66, Tryz.ntmps66
    go_wp2
    go_loopw [3] (fun i wr => ∃ k : Nat, k + 1 ≤ n ∧ i = .int .i64 ((k : Int) + 1) ∧ Hid (adjDup l = adjDup (l.drop k)) ∧ Below w.heap.size w wr) (fun i _ => n - (intOf i).toNat)
    case atStart => exact ⟨0, by omega, rfl, HD0, bl_refl⟩
    case round =>
      obtain ⟨k, hk, rfl, H, hbw⟩ := hrel
      by_cases hlt : k + 1 < n
      · have how := h.below hbw
        have hk1 : k < l.length := by omega
        have hck : ¬ cap = k + 1 := by omega
        have hkt : ((k : Int) + 1 < (n : Int)) = True := by simp; omega
        have hk2 : k + 1 < l.length := by omega
        obtain ⟨c0, c1, c2, c3⟩ := own_cells how hk1 hn
        obtain ⟨_, d1, d2, d3⟩ := own_cells how hk2 hn
        have HD := Lib.hid (adjDup_drop hk2)
        obtain ⟨q, hq⟩ : ∃ q, beqB l[k + 1].1 l[k + 1].2.1 l[k + 1].2.2 l[k].1 l[k].2.1 l[k].2.2 = q := ⟨_, rfl⟩
        have hq' : decide (l[k + 1] = l[k]) = q := hq
        rw [hq'] at HD
        clear hq'
        cases q
        · go_wp2
          refine wp_region_ords [0, 1, 2, 3, 4, 5, 6, 7, 8, 9] [] [] (by kernel_rfl) (by kernel_rfl) (fun d _ _ _ _ h => by cases d <;> exact h) ?_
          simp only [List.map_cons, List.map_nil, List.getD_cons_zero, List.getD_cons_succ]
          repeat (go_big_quiet_step (fail))
          refine wpQuiet_nil ?_
          refine wpMid_nil ?_
          go_wp2
          go_roundw
          case rel => exact ⟨k + 1, by omega, by go_num, by unfold Hid; rw [H.out, HD.out]; rfl, by (repeat (first | exact bl_refl | assumption | (apply bl_then; assumption) | refine bl_alloc ?_ _ | refine bl_drew ?_ | refine bl_drewN ?_ _))⟩
          case measure => simp [intOf]; omega
        · go_wp2
          refine wp_region_ords [0, 1, 2, 3, 4, 5, 6, 7, 8, 9] [] [] (by kernel_rfl) (by kernel_rfl) (fun d _ _ _ _ h => by cases d <;> exact h) ?_
          simp only [List.map_cons, List.map_nil, List.getD_cons_zero, List.getD_cons_succ]
          repeat (go_big_quiet_step (fail))
          refine wpQuiet_nil ?_
          refine wpMid_nil ?_
          go_wp2
          have HT : Hid (adjDup l = true) := by unfold Hid; rw [H.out, HD.out]; rfl
          clear HD H hq c1 c2 c3 d1 d2 d3
          go_loopw [3, 5] (fun i j wq => ∃ (a b : Nat) (l' : List Bar), k + b + 2 ≤ n ∧ a ≤ k + b + 1 ∧ i = .int .i64 a ∧ j = .int .i64 ((b : Int) + 1) ∧ Hid (l'.length = n) ∧ OwB base wq (.slice (some ⟨g, 0, none⟩) n cap) l' ∧ w.grownBy wq (some g)) (fun _ j _ => n - (intOf j).toNat)
          case atStart => exact ⟨k + 1, 0, l, by omega, by omega, by simp, rfl, hn, how.below (bl_drew bl_refl), gb_of (bl_drew hbw)⟩
          case round =>
            obtain ⟨a, b, l', hb2, ha, rfl, rfl, HL, ho', hg'⟩ := hrel
            by_cases hlt2 : k + b + 2 < n
            · have hc1 : ((b : Int) + 1 < ((n - (k + 1) : Nat) : Int)) = True := by simp; omega
              have ho := ho'.rd bc_len
              have hi1 : k + b + 1 < l'.length := by rw [HL.out]; omega
              have hi2 : k + b + 2 < l'.length := by rw [HL.out]; omega
              obtain ⟨c0, c1, c2, c3⟩ := own_cells ho' hi1 HL.out
              obtain ⟨_, d1, d2, d3⟩ := own_cells ho' hi2 HL.out
              rw [show (k + b + 1) * 3 = (k + 1) * 3 + b * 3 by omega] at c1 c2 c3
              rw [show (k + b + 2) * 3 = (k + 1) * 3 + (b + 1) * 3 by omega] at d1 d2 d3
              obtain ⟨⟨x1, y1, s1⟩, e1⟩ : ∃ z, l'[k + b + 1] = z := ⟨_, rfl⟩
              obtain ⟨⟨x2, y2, s2⟩, e2⟩ : ∃ z, l'[k + b + 2] = z := ⟨_, rfl⟩
              rw [e1] at c1 c2 c3
              rw [e2] at d1 d2 d3
              clear e1 e2 ho
              obtain ⟨q, hq⟩ : ∃ q, beqB x2 y2 s2 x1 y1 s1 = q := ⟨_, rfl⟩
              have han : a < n := by omega
              cases q
              · go_wp2
                have hod := ho'.below (bl_drew (W := wr) bl_refl)
                refine wp_region_ords [0, 1, 2, 3, 4, 5, 6, 7, 8, 9] [] [] (by kernel_rfl) (by kernel_rfl) (fun d _ _ _ _ h => by cases d <;> exact h) ?_
                simp only [List.map_cons, List.map_nil, List.getD_cons_zero, List.getD_cons_succ]
                repeat (go_big_quiet_step (fail))
                refine wpQuiet_nil ?_
                refine wpMid_nil ?_
                go_wp2_with (refine wpList_store_own hod HL.out han rfl _ _ rfl rfl rfl ?_; intro w7 hown7 hgr7)
                go_roundw
                case rel => exact ⟨a + 1, b + 1, _, by omega, by omega, by go_num, by go_num, by unfold Hid; rw [List.length_set]; exact HL.out, hown7, (hg'.trans (gb_of (bl_drew bl_refl))).trans hgr7⟩
                case measure => simp [intOf]; omega
              · go_wp2
                refine wp_region_ords [0, 1, 2, 3, 4, 5, 6, 7, 8, 9] [] [] (by kernel_rfl) (by kernel_rfl) (fun d _ _ _ _ h => by cases d <;> exact h) ?_
                simp only [List.map_cons, List.map_nil, List.getD_cons_zero, List.getD_cons_succ]
                repeat (go_big_quiet_step (fail))
                refine wpQuiet_nil ?_
                refine wpMid_nil ?_
                go_wp2
                go_roundw
                case rel => exact ⟨a, b + 1, l', by omega, by omega, rfl, by go_num, HL, ho'.below (bl_drew bl_refl), hg'.trans (gb_of (bl_drew bl_refl))⟩
                case measure => simp [intOf]; omega
            · have hbn : k + b + 2 = n := by omega
              have hc1 : ((b : Int) + 1 < ((n - (k + 1) : Nat) : Int)) = False := by simp; omega
              have han : a ≤ n := by omega
              have hac : ¬ cap = a := by omega
              obtain ⟨W9, hclr, hgr9⟩ := run_clr ho' HL.out a (n - a) (cap - a) (by omega) (by omega) 0
              go_wp2
              go_ret
              exact ⟨some ⟨g, 0, none⟩, a, cap, rfl, by rw [HT.out]; simp; omega, hg'.trans hgr9⟩
      · have hkn : k + 1 = n := by omega
        have hd := Lib.hid (adjDup_end (l := l) (k := k) (by omega))
        go_wp2
        go_ret
        exact ⟨some ⟨g, 0, none⟩, n, cap, rfl, by rw [H.out, hd.out]; simp, gb_of hbw⟩
end Go.Proofs.YtpompeancmonbaaGreat

/- The bars that a walk passes, of the program, walked. Conditions: slices that read as lists. -/
namespace Go.Proofs.YtpompeancmonbaaGreat
open Go.RowKit Go.ChangeMaps
set_option maxHeartbeats 4000000
set_option maxRecDepth 100000

def madeE (l : List Knot) : Int := if cwE l = 0 then (if adjDup (srtB (passP l)) then 9 else 0) else cwE l
def madeL (l : List Knot) : List Bar := if madeE l = 0 then srtB (passP l) else []
theorem made_any {x : Value} (l : List Knot) (w : World) (hl : SlK w x l) : Calls Tryz.prog 24 #[x] w (RBE w (madeL l) (madeE l)) := by
  by_cases hE0 : cwE l = 0
  · have hE' : (cwE l != 0) = false := by rw [hE0]; rfl
    have hl' := cwE_len hE0
    have hpl := passP_length l
    obtain ⟨hadj, hnear⟩ := cwE_ok hE0
    have HS : Hid (madeE l = if adjDup (srtB (passP l)) then 9 else 0) := by unfold Hid madeE; rw [if_pos hE0]
    have hlp : (passP l).length ≤ 5000 := by omega
    have hls : (srtB (passP l)).length ≤ 5000 := by rw [srtB_length]; exact hlp
    clear hE0 hpl
    go_enter Tryz.func24, Tryz.ntmps24
    go_wp2_with (first | (go_at_call 63; refine (checkWalk_any l _ hl).mono ?_; rintro e w1 ⟨rfl, hb1⟩; have hl1 := hl.below hb1) |
      (go_at_call 65; refine (passed_any l _ hl1 hadj hnear (by omega)).mono ?_; rintro e w2 ⟨v2, rfl, hown2, hb2⟩) |
      (go_at_call 64; refine (sorted_any _ _ (hown2.rd bc_len) (by omega)).mono ?_; rintro e w3 ⟨v3, rfl, hown3, hb3⟩; obtain ⟨A3, c3, rfl⟩ := hown3.shape) |
      (go_at_call 40; refine (clone_any _ _ (hown3.rd bc_len) (by omega)).mono ?_; rintro e w4 ⟨v4, rfl, hown4, hb4⟩) |
      (go_at_call 66; refine (compact_any _ _ hown4 (by omega)).mono ?_; rintro e w5 ⟨A5, n5, c5, rfl, hlt5, hgr5⟩))
    all_goals
      have hb5 : Below w3.heap.size w3 w5 := bl_grown hgr5 (by (repeat (first | exact bl_refl | assumption | (apply bl_then; assumption) | refine bl_alloc ?_ _ | refine bl_drew ?_ | refine bl_drewN ?_ _))) fun k hk => (hown4.lt k hk).1
      have hown5 := hown3.below hb5
      have hb23 : Below w.heap.size w w2 := by (repeat (first | exact bl_refl | assumption | (apply bl_then; assumption) | refine bl_alloc ?_ _ | refine bl_drew ?_ | refine bl_drewN ?_ _))
    · rename_i hq
      have hz : Hid (madeE l = 9 ∧ madeL l = []) := by
        have : madeE l = 9 := by rw [HS.out, if_pos hq]
        exact ⟨this, by unfold madeL; rw [this]; rfl⟩
      go_ret2
      exact ⟨.slice none 0 0, by rw [hz.out.1]; rfl, by rw [hz.out.2]; exact Own.nil_, by (repeat (first | exact bl_refl | assumption | (apply bl_then; assumption) | refine bl_alloc ?_ _ | refine bl_drew ?_ | refine bl_drewN ?_ _))⟩
    · rename_i hq
      have hz : Hid (madeE l = 0 ∧ madeL l = srtB (passP l)) := by
        have : madeE l = 0 := by rw [HS.out, if_neg (by rw [hq]; decide)]
        exact ⟨this, by unfold madeL; rw [if_pos this]⟩
      go_ret2
      exact ⟨_, by rw [hz.out.1]; rfl, by rw [hz.out.2]; exact hown5.base_mono hb23.size, by (repeat (first | exact bl_refl | assumption | (apply bl_then; assumption) | refine bl_alloc ?_ _ | refine bl_drew ?_ | refine bl_drewN ?_ _))⟩
  · have hE' : (cwE l != 0) = true := by simpa using hE0
    have HS : Hid (madeE l = cwE l ∧ madeL l = []) := by
      have : madeE l = cwE l := by unfold madeE; rw [if_neg hE0]
      exact ⟨this, by unfold madeL; rw [this, if_neg hE0]⟩
    clear hE0
    go_enter Tryz.func24, Tryz.ntmps24
    go_wp2_with (go_at_call 63; refine (checkWalk_any l _ hl).mono ?_; rintro e w1 ⟨rfl, hb1⟩)
    go_ret2
    exact ⟨.slice none 0 0, by rw [HS.out.1]; rfl, by rw [HS.out.2]; exact Own.nil_, by (repeat (first | exact bl_refl | assumption | (apply bl_then; assumption) | refine bl_alloc ?_ _ | refine bl_drew ?_ | refine bl_drewN ?_ _))⟩
end Go.Proofs.YtpompeancmonbaaGreat

/- The kinds of a knot: their list, and which one holds, of the program, walked. Conditions: none. -/
namespace Go.Proofs.YtpompeancmonbaaGreat
open Go.RowKit Go.ChangeMaps
set_option maxHeartbeats 4000000
set_option maxRecDepth 100000

/-- the names of the kinds -/
def kby : Nat → ByteArray
  | 0 => { data := #[116, 104, 114, 101, 101] }
  | 1 => { data := #[111, 100, 100] }
  | 2 => { data := #[110, 101, 119] }
  | 3 => { data := #[115, 105, 100, 101, 114] }
  | 4 => { data := #[112, 105, 99, 107] }
  | _ => { data := #[99, 114, 111, 115, 115] }
abbrev kstr (i : Nat) : Value := .string (kby i)
def kholds (L : Legs) : Nat → Bool
  | 0 => cnt L == 1
  | 1 => cnt L == 3
  | 2 => cnt L == 4
  | 3 => L.1 == L.2.2.1 && L.2.1 == L.2.2.2
  | 4 => L.1 == L.2.1 && L.2.2.1 == L.2.2.2
  | _ => cnt L == 2
/-- the first kind that holds -/
def kixFrom (L : Legs) : Nat → Nat → Nat
  | 0, _ => 5
  | f + 1, i => if kholds L i then i else kixFrom L f (i + 1)
def kix (L : Legs) : Nat := kixFrom L 6 0
theorem kix_lt : ∀ a b c d, kix (a, b, c, d) < 6 ∧ kholds (a, b, c, d) (kix (a, b, c, d)) = true ∧ (List.range (kix (a, b, c, d))).all (fun i => !kholds (a, b, c, d) i) = true := by decide

theorem eqlB_any (n : Int) (m : Nat) : ((m : Int) == n) = decide ((m : Int) = n) := by
  rw [Bool.eq_iff_iff]; simp
theorem lacks_any (n : Int) (w : World) : Calls Tryz.prog 96 #[.int .i64 n] w fun e w' => ∃ p, e = .returned (.func (.func 97) #[] #[.pointer (some ⟨p, 0, none⟩)]) ∧ w.heap.size ≤ p ∧ Blk w' p 3 #[.int .i64 n] ∧ Below w.heap.size w w' := by
  have hB := Blk.new w 3 #[.int .i64 n]
  go_enter Tryz.func96, Tryz.ntmps96
  go_wp2
  go_ret
  exact ⟨_, rfl, Nat.le_refl _, hB, by (repeat (first | exact bl_refl | assumption | (apply bl_then; assumption) | refine bl_alloc ?_ _ | refine bl_drew ?_ | refine bl_drewN ?_ _))⟩
theorem k137_any (a b c d : Bool) (n : Int) (p : Nat) (w : World) (h : Blk w p 3 #[.int .i64 n]) : Calls Tryz.prog 97 #[lb a b c d, .pointer (some ⟨p, 0, none⟩)] w (RV w (.bool (((cnt (a, b, c, d) : Nat) : Int) == n))) := by
  have hB := Blk.new w 106 #[.bool a, .bool b, .bool c, .bool d]
  have hp := h.alloc (.cells #[.bool a, .bool b, .bool c, .bool d] 106)
  have fB := hB.facts
  have fp := hp.facts
  have fp0 := h.facts
  go_enter Tryz.func97, Tryz.ntmps97
  go_wp2
  refine wp_region_ords [0, 2] [(1, false)] [3, 4] (by kernel_rfl) (by kernel_rfl) (fun d _ _ _ _ h => by cases d <;> exact h) ?_
  simp only [List.map_cons, List.map_nil, List.getD_cons_zero, List.getD_cons_succ]
  repeat (go_big_quiet_step (fail))
  refine wpQuiet_nil ?_
  refine wpMid_run rfl (fun K hK => ?_)
  go_simp
  refine (count_any a b c d _).mono ?_
  rintro e w1 ⟨rfl, hb1⟩
  refine hK _ _ (by (repeat (first | exact bl_refl | assumption | (apply bl_then; assumption) | refine bl_alloc ?_ _ | refine bl_drew ?_ | refine bl_drewN ?_ _))) ?_
  clear hK K
  refine wpMid_nil ?_
  go_wp2
  go_ret
  exact ⟨rfl, by (repeat (first | exact bl_refl | assumption | (apply bl_then; assumption) | refine bl_alloc ?_ _ | refine bl_drew ?_ | refine bl_drewN ?_ _))⟩
theorem k138_any (a b c d : Bool) (w : World) : Calls Tryz.prog 98 #[lb a b c d] w (RV w (.bool (a == c && b == d))) := by
  have hB := Blk.new w 106 #[.bool a, .bool b, .bool c, .bool d]
  have fB := hB.facts
  cases a <;> cases b <;> cases c <;> cases d
  all_goals
    go_enter Tryz.func98, Tryz.ntmps98
    go_wp2
    go_ret
    exact ⟨rfl, by (repeat (first | exact bl_refl | assumption | (apply bl_then; assumption) | refine bl_alloc ?_ _ | refine bl_drew ?_ | refine bl_drewN ?_ _))⟩
theorem k139_any (a b c d : Bool) (w : World) : Calls Tryz.prog 99 #[lb a b c d] w (RV w (.bool (a == b && c == d))) := by
  have hB := Blk.new w 106 #[.bool a, .bool b, .bool c, .bool d]
  have fB := hB.facts
  cases a <;> cases b <;> cases c <;> cases d
  all_goals
    go_enter Tryz.func99, Tryz.ntmps99
    go_wp2
    go_ret
    exact ⟨rfl, by (repeat (first | exact bl_refl | assumption | (apply bl_then; assumption) | refine bl_alloc ?_ _ | refine bl_drew ?_ | refine bl_drewN ?_ _))⟩

/-- the list of kinds, at block b -/
structure KindsAt (w : World) (b : Nat) (p0 p1 p2 p5 : Nat) : Prop where
  b : Blk w b 110 #[kstr 0, .func (.func 97) #[] #[.pointer (some ⟨p0, 0, none⟩)], kstr 1, .func (.func 97) #[] #[.pointer (some ⟨p1, 0, none⟩)], kstr 2, .func (.func 97) #[] #[.pointer (some ⟨p2, 0, none⟩)],
    kstr 3, .func (.func 98) #[] #[], kstr 4, .func (.func 99) #[] #[], kstr 5, .func (.func 97) #[] #[.pointer (some ⟨p5, 0, none⟩)]]
  n0 : Blk w p0 3 #[.int .i64 1]
  n1 : Blk w p1 3 #[.int .i64 3]
  n2 : Blk w p2 3 #[.int .i64 4]
  n5 : Blk w p5 3 #[.int .i64 2]
theorem kinds_any (w : World) : Calls Tryz.prog 53 #[] w fun e w' => ∃ b p0 p1 p2 p5, e = .returned (.slice (some ⟨b, 0, none⟩) 6 6) ∧ w.heap.size ≤ b ∧ w.heap.size ≤ p0 ∧ w.heap.size ≤ p1 ∧ w.heap.size ≤ p2 ∧ w.heap.size ≤ p5 ∧ KindsAt w' b p0 p1 p2 p5 ∧ Below w.heap.size w w' := by
  go_enter Tryz.func53, Tryz.ntmps53
  go_wp2_with fail
  refine (lacks_any _ _).mono ?_
  rintro e w1 ⟨p0, rfl, h0, n0, hb1⟩
  go_wp2_with fail
  refine (lacks_any _ _).mono ?_
  rintro e w2 ⟨p1, rfl, h1, n1, hb2⟩
  replace n0 := n0.below hb2
  go_wp2_with fail
  refine (lacks_any _ _).mono ?_
  rintro e w3 ⟨p2, rfl, h2, n2, hb3⟩
  replace n0 := n0.below hb3
  replace n1 := n1.below hb3
  go_wp2_with fail
  refine (lacks_any _ _).mono ?_
  rintro e w4 ⟨p5, rfl, h5, n5, hb4⟩
  replace n0 := n0.below hb4
  replace n1 := n1.below hb4
  replace n2 := n2.below hb4
  go_wp2
  go_ret
  have z1 := hb1.size
  have z2 := hb2.size
  have z3 := hb3.size
  have z4 := hb4.size
  exact ⟨_, p0, p1, p2, p5, rfl, by omega, by omega, by omega, by omega, by omega, ⟨Blk.new w4 _ _, n0.alloc _, n1.alloc _, n2.alloc _, n5.alloc _⟩, by (repeat (first | exact bl_refl | assumption | (apply bl_then; assumption) | refine bl_alloc ?_ _ | refine bl_drew ?_ | refine bl_drewN ?_ _))⟩
end Go.Proofs.YtpompeancmonbaaGreat

/- Which kind of a knot comes first, of the program, walked. Conditions: the kinds' list at its block, the arms at theirs. -/
namespace Go.Proofs.YtpompeancmonbaaGreat
open Go.RowKit Go.ChangeMaps
set_option maxHeartbeats 4000000
set_option maxRecDepth 100000

def LegsAt (w : World) (g : Nat) (a b c d : Bool) : Prop := Blk w g 106 #[.bool a, .bool b, .bool c, .bool d]
theorem first_n (s : Value) (a b c d : Bool) (n : Int) (p g : Nat) (w : World) (h : Blk w p 3 #[.int .i64 n]) (hg : LegsAt w g a b c d) :
    Calls Tryz.prog 56 #[.agg #[s, .func (.func 97) #[] #[.pointer (some ⟨p, 0, none⟩)]], .pointer (some ⟨g, 0, none⟩)] w (RV w (.bool (((cnt (a, b, c, d) : Nat) : Int) == n))) := by
  unfold LegsAt at hg
  have hB := Blk.new w 110 #[s, .func (.func 97) #[] #[.pointer (some ⟨p, 0, none⟩)]]
  have fB := hB.facts
  have h1 := h.alloc (.cells #[s, .func (.func 97) #[] #[.pointer (some ⟨p, 0, none⟩)]] 110)
  have g1 := hg.alloc (.cells #[s, .func (.func 97) #[] #[.pointer (some ⟨p, 0, none⟩)]] 110)
  have f1 := g1.facts
  go_enter Tryz.func56, Tryz.ntmps56
  go_wp2_with (go_at_call 97; refine (k137_any a b c d n p _ h1).mono ?_; rintro e w1 ⟨rfl, hb1⟩)
  go_ret
  exact ⟨rfl, by (repeat (first | exact bl_refl | assumption | (apply bl_then; assumption) | refine bl_alloc ?_ _ | refine bl_drew ?_ | refine bl_drewN ?_ _))⟩
theorem first_s (s : Value) (a b c d : Bool) (g : Nat) (w : World) (hg : LegsAt w g a b c d) :
    Calls Tryz.prog 56 #[.agg #[s, .func (.func 98) #[] #[]], .pointer (some ⟨g, 0, none⟩)] w (RV w (.bool (a == c && b == d))) := by
  unfold LegsAt at hg
  have hB := Blk.new w 110 #[s, .func (.func 98) #[] #[]]
  have fB := hB.facts
  have g1 := hg.alloc (.cells #[s, .func (.func 98) #[] #[]] 110)
  have f1 := g1.facts
  go_enter Tryz.func56, Tryz.ntmps56
  go_wp2_with (go_at_call 98; refine (k138_any a b c d _).mono ?_; rintro e w1 ⟨rfl, hb1⟩)
  go_ret
  exact ⟨rfl, by (repeat (first | exact bl_refl | assumption | (apply bl_then; assumption) | refine bl_alloc ?_ _ | refine bl_drew ?_ | refine bl_drewN ?_ _))⟩
theorem first_p (s : Value) (a b c d : Bool) (g : Nat) (w : World) (hg : LegsAt w g a b c d) :
    Calls Tryz.prog 56 #[.agg #[s, .func (.func 99) #[] #[]], .pointer (some ⟨g, 0, none⟩)] w (RV w (.bool (a == b && c == d))) := by
  unfold LegsAt at hg
  have hB := Blk.new w 110 #[s, .func (.func 99) #[] #[]]
  have fB := hB.facts
  have g1 := hg.alloc (.cells #[s, .func (.func 99) #[] #[]] 110)
  have f1 := g1.facts
  go_enter Tryz.func56, Tryz.ntmps56
  go_wp2_with (go_at_call 99; refine (k139_any a b c d _).mono ?_; rintro e w1 ⟨rfl, hb1⟩)
  go_ret
  exact ⟨rfl, by (repeat (first | exact bl_refl | assumption | (apply bl_then; assumption) | refine bl_alloc ?_ _ | refine bl_drew ?_ | refine bl_drewN ?_ _))⟩
theorem holds_eq (a b c d : Bool) : (((cnt (a, b, c, d) : Nat) : Int) == 1) = kholds (a, b, c, d) 0 ∧ (((cnt (a, b, c, d) : Nat) : Int) == 3) = kholds (a, b, c, d) 1 ∧ (((cnt (a, b, c, d) : Nat) : Int) == 4) = kholds (a, b, c, d) 2 ∧ (((cnt (a, b, c, d) : Nat) : Int) == 2) = kholds (a, b, c, d) 5 := by
  revert a b c d; decide
theorem kix_first {a b c d : Bool} {k : Nat} (hk : k ≤ kix (a, b, c, d)) : (kholds (a, b, c, d) k = true → k = kix (a, b, c, d)) ∧ (kholds (a, b, c, d) k = false → k + 1 ≤ kix (a, b, c, d)) := by
  obtain ⟨h1, h2, h3⟩ := kix_lt a b c d
  refine ⟨fun h => ?_, fun h => ?_⟩
  · rcases Nat.lt_or_ge k (kix (a, b, c, d)) with hlt | hge
    · have := List.all_eq_true.1 h3 k (List.mem_range.2 hlt)
      rw [h] at this
      cases this
    · omega
  · rcases Nat.lt_or_ge k (kix (a, b, c, d)) with hlt | hge
    · omega
    · obtain rfl : k = kix (a, b, c, d) := by omega
      rw [h2] at h
      cases h
theorem findKind_any (a b c d : Bool) (b0 p0 p1 p2 p5 g : Nat) (w : World) (hK : KindsAt w b0 p0 p1 p2 p5) (hg : LegsAt w g a b c d) :
    Calls Tryz.prog 55 #[.slice (some ⟨b0, 0, none⟩) 6 6, .func (.func 56) #[] #[.pointer (some ⟨g, 0, none⟩)]] w (RV w (.int .i64 (kix (a, b, c, d)))) := by
  have hlt6 := (kix_lt a b c d).1
  go_enter Tryz.func55, Tryz.ntmps55
  go_wp2
  go_loopw [8] (fun i wr => ∃ k : Nat, k ≤ kix (a, b, c, d) ∧ i = .int .i64 k ∧ Below w.heap.size w wr) (fun i _ => 6 - (intOf i).toNat)
  case atStart => exact ⟨0, Nat.zero_le _, rfl, bl_refl⟩
  case round =>
    obtain ⟨k, hk, rfl, hbw⟩ := hrel
    have HF := Lib.hid (kix_first hk)
    have hB := hK.b.below hbw
    have n0 := hK.n0.below hbw
    have n1 := hK.n1.below hbw
    have n2 := hK.n2.below hbw
    have n5 := hK.n5.below hbw
    have hG : LegsAt wr g a b c d := Blk.below hg hbw
    have fB := hB.facts
    obtain rfl | rfl | rfl | rfl | rfl | rfl : k = 0 ∨ k = 1 ∨ k = 2 ∨ k = 3 ∨ k = 4 ∨ k = 5 := by omega
    · have hc := first_n (kstr 0) a b c d 1 p0 g wr n0 hG
      rw [(holds_eq a b c d).1] at hc
      obtain ⟨q, hq⟩ : ∃ q, kholds (a, b, c, d) 0 = q := ⟨_, rfl⟩
      rw [hq] at hc
      have HQ := Lib.hid hq
      clear hq n0 n1 n2 n5 hG
      cases q
      · go_wp2_with (go_at_call 56; refine hc.mono ?_; rintro e w1 ⟨rfl, hb1⟩)
        go_roundw
        case rel => exact ⟨1, HF.out.2 HQ.out, by go_num, by (repeat (first | exact bl_refl | assumption | (apply bl_then; assumption) | refine bl_alloc ?_ _ | refine bl_drew ?_ | refine bl_drewN ?_ _))⟩
        case measure => simp [intOf]
      · go_wp2_with (go_at_call 56; refine hc.mono ?_; rintro e w1 ⟨rfl, hb1⟩)
        go_ret
        exact ⟨ret_int (by rw [← HF.out.1 HQ.out]; rfl), by (repeat (first | exact bl_refl | assumption | (apply bl_then; assumption) | refine bl_alloc ?_ _ | refine bl_drew ?_ | refine bl_drewN ?_ _))⟩
    · have hc := first_n (kstr 1) a b c d 3 p1 g wr n1 hG
      rw [(holds_eq a b c d).2.1] at hc
      obtain ⟨q, hq⟩ : ∃ q, kholds (a, b, c, d) 1 = q := ⟨_, rfl⟩
      rw [hq] at hc
      have HQ := Lib.hid hq
      clear hq n0 n1 n2 n5 hG
      cases q
      · go_wp2_with (go_at_call 56; refine hc.mono ?_; rintro e w1 ⟨rfl, hb1⟩)
        go_roundw
        case rel => exact ⟨2, HF.out.2 HQ.out, by go_num, by (repeat (first | exact bl_refl | assumption | (apply bl_then; assumption) | refine bl_alloc ?_ _ | refine bl_drew ?_ | refine bl_drewN ?_ _))⟩
        case measure => simp [intOf]
      · go_wp2_with (go_at_call 56; refine hc.mono ?_; rintro e w1 ⟨rfl, hb1⟩)
        go_ret
        exact ⟨ret_int (by rw [← HF.out.1 HQ.out]; rfl), by (repeat (first | exact bl_refl | assumption | (apply bl_then; assumption) | refine bl_alloc ?_ _ | refine bl_drew ?_ | refine bl_drewN ?_ _))⟩
    · have hc := first_n (kstr 2) a b c d 4 p2 g wr n2 hG
      rw [(holds_eq a b c d).2.2.1] at hc
      obtain ⟨q, hq⟩ : ∃ q, kholds (a, b, c, d) 2 = q := ⟨_, rfl⟩
      rw [hq] at hc
      have HQ := Lib.hid hq
      clear hq n0 n1 n2 n5 hG
      cases q
      · go_wp2_with (go_at_call 56; refine hc.mono ?_; rintro e w1 ⟨rfl, hb1⟩)
        go_roundw
        case rel => exact ⟨3, HF.out.2 HQ.out, by go_num, by (repeat (first | exact bl_refl | assumption | (apply bl_then; assumption) | refine bl_alloc ?_ _ | refine bl_drew ?_ | refine bl_drewN ?_ _))⟩
        case measure => simp [intOf]
      · go_wp2_with (go_at_call 56; refine hc.mono ?_; rintro e w1 ⟨rfl, hb1⟩)
        go_ret
        exact ⟨ret_int (by rw [← HF.out.1 HQ.out]; rfl), by (repeat (first | exact bl_refl | assumption | (apply bl_then; assumption) | refine bl_alloc ?_ _ | refine bl_drew ?_ | refine bl_drewN ?_ _))⟩
    · have hc := first_s (kstr 3) a b c d g wr hG
      have hc : Calls _ _ _ _ (RV wr (.bool (kholds (a, b, c, d) 3))) := hc
      obtain ⟨q, hq⟩ : ∃ q, kholds (a, b, c, d) 3 = q := ⟨_, rfl⟩
      rw [hq] at hc
      have HQ := Lib.hid hq
      clear hq n0 n1 n2 n5 hG
      cases q
      · go_wp2_with (go_at_call 56; refine hc.mono ?_; rintro e w1 ⟨rfl, hb1⟩)
        go_roundw
        case rel => exact ⟨4, HF.out.2 HQ.out, by go_num, by (repeat (first | exact bl_refl | assumption | (apply bl_then; assumption) | refine bl_alloc ?_ _ | refine bl_drew ?_ | refine bl_drewN ?_ _))⟩
        case measure => simp [intOf]
      · go_wp2_with (go_at_call 56; refine hc.mono ?_; rintro e w1 ⟨rfl, hb1⟩)
        go_ret
        exact ⟨ret_int (by rw [← HF.out.1 HQ.out]; rfl), by (repeat (first | exact bl_refl | assumption | (apply bl_then; assumption) | refine bl_alloc ?_ _ | refine bl_drew ?_ | refine bl_drewN ?_ _))⟩
    · have hc := first_p (kstr 4) a b c d g wr hG
      have hc : Calls _ _ _ _ (RV wr (.bool (kholds (a, b, c, d) 4))) := hc
      obtain ⟨q, hq⟩ : ∃ q, kholds (a, b, c, d) 4 = q := ⟨_, rfl⟩
      rw [hq] at hc
      have HQ := Lib.hid hq
      clear hq n0 n1 n2 n5 hG
      cases q
      · go_wp2_with (go_at_call 56; refine hc.mono ?_; rintro e w1 ⟨rfl, hb1⟩)
        go_roundw
        case rel => exact ⟨5, HF.out.2 HQ.out, by go_num, by (repeat (first | exact bl_refl | assumption | (apply bl_then; assumption) | refine bl_alloc ?_ _ | refine bl_drew ?_ | refine bl_drewN ?_ _))⟩
        case measure => simp [intOf]
      · go_wp2_with (go_at_call 56; refine hc.mono ?_; rintro e w1 ⟨rfl, hb1⟩)
        go_ret
        exact ⟨ret_int (by rw [← HF.out.1 HQ.out]; rfl), by (repeat (first | exact bl_refl | assumption | (apply bl_then; assumption) | refine bl_alloc ?_ _ | refine bl_drew ?_ | refine bl_drewN ?_ _))⟩
    · have hc := first_n (kstr 5) a b c d 2 p5 g wr n5 hG
      rw [(holds_eq a b c d).2.2.2] at hc
      obtain ⟨q, hq⟩ : ∃ q, kholds (a, b, c, d) 5 = q := ⟨_, rfl⟩
      rw [hq] at hc
      have HQ := Lib.hid hq
      clear hq n0 n1 n2 n5 hG
      cases q
      · go_wp2_with (go_at_call 56; refine hc.mono ?_; rintro e w1 ⟨rfl, hb1⟩)
        go_roundw
        case rel => exact ⟨6, HF.out.2 HQ.out, by go_num, by (repeat (first | exact bl_refl | assumption | (apply bl_then; assumption) | refine bl_alloc ?_ _ | refine bl_drew ?_ | refine bl_drewN ?_ _))⟩
        case measure => simp [intOf]
      · go_wp2_with (go_at_call 56; refine hc.mono ?_; rintro e w1 ⟨rfl, hb1⟩)
        go_ret
        exact ⟨ret_int (by rw [← HF.out.1 HQ.out]; rfl), by (repeat (first | exact bl_refl | assumption | (apply bl_then; assumption) | refine bl_alloc ?_ _ | refine bl_drew ?_ | refine bl_drewN ?_ _))⟩
end Go.Proofs.YtpompeancmonbaaGreat

/- Equal neighbours in a row of knots taken away, walked. Conditions: a row of the call's own. -/
import Derived.Test.YtpompeancmonbaaGreatE08
import Derived.Test.YtpompeancmonbaaGreatE17
import Derived.Test.YtpompeancmonbaaGreatE23
import Derived.Test.YtpompeancmonbaaGreatE22
import Derived.Test.YtpompeancmonbaaGreatE24
import Derived.Test.YtpompeancmonbaaGreatE26
import Derived.Test.YtpompeancmonbaaGreatE14
import Derived.Test.YtpompeancmonbaaGreatE27
import Derived.Deep.CutRange
namespace Go.Proofs.YtpompeancmonbaaGreat
open Go.RowKit Go.ChangeMaps
set_option maxHeartbeats 4000000
set_option maxRecDepth 100000

/-! ## a knot stored into a row of the call's own -/
theorem flat_set2 (x y : Int) : ∀ (l : List Knot) (i : Nat), i < l.length → ((l.flatMap kc).set (i * 2) (.int .i64 x)).set (i * 2 + 1) (.int .i64 y) = (l.set i (x, y)).flatMap kc
  | [], i, h => by simp at h
  | b :: r, 0, _ => by simp [kc]
  | b :: r, i + 1, h => by
    have ih := flat_set2 x y r i (by simpa using h)
    have e0 : (i + 1) * 2 = i * 2 + 2 := by omega
    have e1 : (i + 1) * 2 + 1 = i * 2 + 1 + 2 := by omega
    rw [e1, e0, List.flatMap_cons, List.set_cons_succ, List.flatMap_cons, ← ih]
    simp only [kc, List.cons_append, List.nil_append, List.set_cons_succ]
theorem flatK_take : ∀ (l : List Knot) (k : Nat), (l.flatMap kc).take (k * 2) = (l.take k).flatMap kc
  | _, 0 => by simp
  | [], k + 1 => by simp
  | b :: r, k + 1 => by
    have ih := flatK_take r k
    rw [show (k + 1) * 2 = k * 2 + 1 + 1 by omega, List.flatMap_cons, List.take_succ_cons, List.flatMap_cons, ← ih]
    simp [kc]
section
variable {P : Program} {w : World} {base g cap : Nat} {l : List Knot}
theorem ownK_set {e : TypeId} (h : Own kc 2 base e w (.slice (some ⟨g, 0, none⟩) l.length cap) l) {i : Nat} (hi : i < l.length) (x y : Int) :
    Own kc 2 base e (w.setCells g (i * 2) [.int .i64 x, .int .i64 y]) (.slice (some ⟨g, 0, none⟩) l.length cap) (l.set i (x, y)) ∧ w.grownBy (w.setCells g (i * 2) [.int .i64 x, .int .i64 y]) (some g) := by
  obtain ⟨h1, g1⟩ := World.ownsRow.stored h (i * 2) (.int .i64 x)
  obtain ⟨h2, g2⟩ := World.ownsRow.stored h1 (i * 2 + 1) (.int .i64 y)
  rw [flat_set2 x y l i hi] at h2
  refine ⟨?_, g1.trans g2⟩
  unfold Own
  rw [List.length_set]
  exact h2
theorem ownK_there {e : TypeId} (h : Own kc 2 base e w (.slice (some ⟨g, 0, none⟩) l.length cap) l) {i : Nat} (hi : i < l.length) : w.there g (i * 2) 2 := by
  obtain ⟨hl, hc⟩ := h
  rcases hc with ⟨hv, _⟩ | ⟨g', cap', cur, hv, hg, hh, hnc, hcm, hcs, htk⟩
  · cases hv
  · obtain ⟨rfl, rfl⟩ : g = g' ∧ cap = cap' := by simpa using hv
    intro j hj
    refine ⟨?_, by simp [World.frozen?, hh]⟩
    have : i * 2 + j < cur.size := by rw [hcs]; omega
    simp [World.cell?, hh, this]
end
theorem wpList_store_ownK {ops : Array Oper} {rest : List Oper} {op : Oper} {a : Act} {Q : Exit → Act → World → Prop} {w : World} {base g cap n : Nat} {l : List Knot} (h : OwK base w (.slice (some ⟨g, 0, none⟩) n cap) l) (hn : l.length = n) {i : Nat} (hi : i < n) (hgd : op.guard = none) (x y : Operand) (ho : op.op = .store 32 x y)
    {p q : Int} (hx : a.eval x = .pointer (some ⟨g, i * 2, none⟩)) (hy : a.eval y = .agg #[.int .i64 p, .int .i64 q])
    (hK : ∀ W', OwK base W' (.slice (some ⟨g, 0, none⟩) n cap) (l.set i (p, q)) → w.grownBy W' (some g) → wpList Tryz.prog ops Q rest (a.put op.dst undef) W') : wpList Tryz.prog ops Q (op :: rest) a w := by
  subst hn
  refine wpList_plain hgd fun K hK' => ?_
  obtain ⟨h1, h2⟩ := ownK_set h hi p q
  have hr := run_storeVar_mid (P := Tryz.prog) w g (i * 2) 32 #[.int .i64 p, .int .i64 q] (ownK_there h hi) (by kernel_rfl) (by kernel_rfl)
  unfold Oper.wp execOp
  simp only [ho, hx, hy, Instr.storeAt, Instr.sureAddr, Sem.run_bind, Sem.run_pure, Result.andThen_ok, hr]
  exact hK' _ _ (hK _ h1 h2)
/-- the cells behind a place are cleared; what stands ahead of it stays -/
theorem run_clrK {w : World} {base g cap n : Nat} {l : List Knot} (h : OwK base w (.slice (some ⟨g, 0, none⟩) n cap) l) (hn : l.length = n) (k m c : Nat) (hk : k + m = n) (hm : 0 < m) (ty : TypeId) :
    ∃ W', (Builtin.clear_ #[41] ty #[.slice (some ⟨g, k * 2, none⟩) m c]).run Tryz.prog w = .ok (.tuple #[]) W' ∧ w.grownBy W' (some g) ∧ OwK base W' (.slice (some ⟨g, 0, none⟩) k cap) (l.take k) := by
  subst hn
  obtain ⟨hl, hc⟩ := h
  rcases hc with ⟨hv, _⟩ | ⟨g', cap', cur, hv, hg, hh, hnc, hcm, hcs, htk⟩
  · cases hv
  · obtain ⟨rfl, rfl⟩ : g = g' ∧ cap = cap' := by simpa using hv
    have hz : (zeroValue 32).run Tryz.prog w = .ok (.agg #[.int .i64 0, .int .i64 0]) w := by kernel_rfl
    have hsz : (Builtin.zeroCells (Value.agg #[.int .i64 0, .int .i64 0]).cells m).toList.length = m * 2 := by simp [Builtin.zeroCells, Value.cells]
    have h1 : ∀ v ∈ (Builtin.zeroCells (Value.agg #[.int .i64 0, .int .i64 0]).cells m).toList, v.oneCell' = true := by
      intro v hv
      simp only [Builtin.zeroCells, Value.cells, Array.toList_map, List.mem_map] at hv
      obtain ⟨i, _, rfl⟩ := hv
      have : i % 2 < 2 := Nat.mod_lt _ (by decide)
      show (#[Value.int .i64 0, Value.int .i64 0][i % 2]!).oneCell' = true
      match i % 2, this with
      | 0, _ => rfl
      | 1, _ => rfl
    obtain ⟨m, rfl⟩ : ∃ m', m = m' + 1 := ⟨m - 1, by omega⟩
    obtain ⟨zs, hzs⟩ : ∃ zs, (Builtin.zeroCells (Value.agg #[.int .i64 0, .int .i64 0]).cells (m + 1)).toList = zs := ⟨_, rfl⟩
    rw [hzs] at hsz h1
    obtain ⟨cs, hce, hst⟩ : ∃ cs, cs = (cur.toList.take (k * 2 + 0) ++ zs ++ cur.toList.drop (k * 2 + 0 + zs.length)).toArray ∧ (storeCells ⟨g, k * 2, none⟩ zs 0).run Tryz.prog w = .ok () (w.setRow g cs) :=
      ⟨_, rfl, run_storeCells_at Tryz.prog g (k * 2) 32 _ 0 cur w hh (by rw [hsz, hcs]; omega) h1⟩
    refine ⟨w.setRow g cs, ?_, ⟨rfl, rfl, rfl, by simp [World.setRow], fun k hk hne => setRow_other w g k _ (fun e => hne (by simp [e]))⟩, ?_⟩
    · unfold Builtin.clear_
      simp [run_underlying knot_elem.und, hz, hzs, hst]
    · have hfl : (l.flatMap kc).length = l.length * 2 := flat_len kc_len l
      have htk2 : cs.toList.take (k * 2) = (l.take k).flatMap kc := by
        rw [hce, ← flatK_take]
        rw [← htk, List.take_take, Nat.min_eq_left (by omega)]
        simp only [Nat.add_zero]
        rw [List.append_assoc, List.take_append_of_le_length (by rw [List.length_take]; simp; rw [hcs]; omega), List.take_take, Nat.min_self]
      have hsz2 : cs.size = cap * 2 := by
        rw [hce]
        simp only [Nat.add_zero, List.size_toArray, List.length_append, List.length_take, List.length_drop, hsz, Array.length_toList, hcs]
        omega
      have hll : (l.take k).length = k := by rw [List.length_take]; omega
      unfold OwK Own
      rw [hll]
      refine ⟨by rw [flat_len kc_len, hll], .inr ⟨g, cap, cs, rfl, hg, setRow_heap w g cur _ _ _ hh, by omega, hcm, hsz2, htk2⟩⟩

/-! ## equal neighbours -/
def ddFrom {α : Type} [DecidableEq α] (p : α) : List α → List α
  | [] => []
  | x :: r => if x = p then ddFrom p r else x :: ddFrom x r
/-- of equal neighbours the first alone -/
def ddL {α : Type} [DecidableEq α] : List α → List α
  | [] => []
  | x :: r => x :: ddFrom x r
section
variable {α : Type} [DecidableEq α]
theorem ddFrom_snoc (x : α) : ∀ (r : List α) (p : α), ddFrom p (r ++ [x]) = ddFrom p r ++ if x = r.getLastD p then [] else [x]
  | [], p => by by_cases h : x = p <;> simp [ddFrom, h]
  | y :: r, p => by
    by_cases h : y = p
    · subst h
      have := ddFrom_snoc x r y
      simp only [List.cons_append, ddFrom, if_true]
      rw [this]
      cases r <;> rfl
    · have := ddFrom_snoc x r y
      simp only [List.cons_append, ddFrom, if_neg h]
      rw [this]
      cases r <;> rfl
theorem dd_take {l : List α} {m : Nat} (h : m + 1 < l.length) : ddL (l.take (m + 2)) = ddL (l.take (m + 1)) ++ if l[m + 1] = l[m] then [] else [l[m + 1]] := by
  rw [List.take_succ_eq_append_getElem h]
  cases l with
  | nil => simp at h
  | cons y r =>
    simp only [List.take_succ_cons, List.cons_append, ddL]
    rw [ddFrom_snoc]
    congr 2
    have : (r.take m).getLastD y = (y :: r)[m]'(by simp at h ⊢; omega) := by
      cases m with
      | zero => rfl
      | succ m =>
        have h' : m < r.length := by simp at h; omega
        rw [List.getLastD_eq_getLast?, List.getLast?_take]
        simp [h']
    rw [this]
theorem ddFrom_mem (x : α) : ∀ (r : List α) (p : α), x ∈ ddFrom p r → x ∈ r
  | [], p, h => by simp [ddFrom] at h
  | y :: r, p, h => by
    unfold ddFrom at h
    split at h
    · exact List.mem_cons_of_mem _ (ddFrom_mem x r p h)
    · rcases List.mem_cons.1 h with rfl | h
      · simp
      · exact List.mem_cons_of_mem _ (ddFrom_mem x r y h)
theorem mem_ddFrom (x : α) : ∀ (r : List α) (p : α), x ∈ r → x = p ∨ x ∈ ddFrom p r
  | [], p, h => by simp at h
  | y :: r, p, h => by
    unfold ddFrom
    rcases List.mem_cons.1 h with rfl | h
    · by_cases hp : x = p
      · exact .inl hp
      · rw [if_neg hp]; exact .inr (by simp)
    · by_cases hp : y = p
      · rw [if_pos hp]; exact mem_ddFrom x r p h
      · rw [if_neg hp]
        rcases mem_ddFrom x r y h with h | h
        · exact .inr (by simp [h])
        · exact .inr (by simp [h])
theorem dd_mem (x : α) (l : List α) : x ∈ ddL l ↔ x ∈ l := by
  cases l with
  | nil => simp [ddL]
  | cons y r =>
    simp only [ddL, List.mem_cons]
    constructor
    · rintro (h | h)
      · exact .inl h
      · exact .inr (ddFrom_mem x r y h)
    · rintro (h | h)
      · exact .inl h
      · exact mem_ddFrom x r y h
theorem dd_len_from : ∀ (r : List α) (p : α), (ddFrom p r).length ≤ r.length
  | [], _ => by simp [ddFrom]
  | y :: r, p => by
    unfold ddFrom
    split
    · have := dd_len_from r p; simp only [List.length_cons]; omega
    · have := dd_len_from r y; simp only [List.length_cons]; omega
theorem dd_len (l : List α) : (ddL l).length ≤ l.length := by
  cases l with
  | nil => simp [ddL]
  | cons y r => have := dd_len_from r y; simp only [ddL, List.length_cons]; omega
theorem dd_sorted_from {R : α → α → Prop} : ∀ (r : List α) (p : α), (p :: r).Pairwise (fun a b => a = b ∨ R a b) → (∀ a b c, R a b → R b c → R a c) → (ddFrom p r).Pairwise R ∧ ∀ x ∈ ddFrom p r, R p x
  | [], p, _, _ => by simp [ddFrom]
  | y :: r, p, h, tr => by
    obtain ⟨h1, h2⟩ := List.pairwise_cons.1 h
    unfold ddFrom
    by_cases hp : y = p
    · rw [if_pos hp]
      subst hp
      exact dd_sorted_from r y h2 tr
    · rw [if_neg hp]
      obtain ⟨i1, i2⟩ := dd_sorted_from r y h2 tr
      have hpy : R p y := by
        rcases h1 y (by simp) with h3 | h3
        · exact absurd h3.symm hp
        · exact h3
      refine ⟨List.pairwise_cons.2 ⟨i2, i1⟩, fun x hx => ?_⟩
      rcases List.mem_cons.1 hx with rfl | hx
      · exact hpy
      · exact tr _ _ _ hpy (i2 x hx)
theorem dd_sorted {R : α → α → Prop} (tr : ∀ a b c, R a b → R b c → R a c) {l : List α} (h : l.Pairwise (fun a b => a = b ∨ R a b)) : (ddL l).Pairwise R := by
  cases l with
  | nil => simp [ddL]
  | cons y r =>
    obtain ⟨i1, i2⟩ := dd_sorted_from r y h tr
    exact List.pairwise_cons.2 ⟨i2, i1⟩
end
theorem ownK_cells {w : World} {base g cap n : Nat} {l : List Knot} (h : OwK base w (.slice (some ⟨g, 0, none⟩) n cap) l) {k : Nat} (hk : k < l.length) (_ : l.length = n) : g < w.heap.size ∧
    w.cell? ⟨g, k * 2, none⟩ = some (.int .i64 l[k].1) ∧ w.cell? ⟨g, k * 2 + 1, none⟩ = some (.int .i64 l[k].2) := by
  obtain ⟨A, c, he, _, _, hr⟩ := h.rd kc_len
  obtain rfl := (Value.slice.inj he).1
  obtain ⟨h0, h1, h2⟩ := hr.knotAt hk
  exact ⟨h0, by simpa using h1, by simpa using h2⟩
theorem keq_any (x y x' y' : Int) (w : World) : Calls Tryz.prog 112 #[.agg #[.int .i64 x, .int .i64 y], .agg #[.int .i64 x', .int .i64 y']] w (RV w (.bool (beqK x y x' y'))) := by
  have hB1 := (Blk.new w 32 #[.int .i64 x, .int .i64 y]).alloc (.cells #[.int .i64 x', .int .i64 y'] 32)
  have hB2 := Blk.new1 w (.cells #[.int .i64 x, .int .i64 y] 32) 32 #[.int .i64 x', .int .i64 y']
  have f1 := hB1.facts
  have f2 := hB2.facts
  obtain ⟨q, hq⟩ : ∃ q, beqK x y x' y' = q := ⟨_, rfl⟩
  rw [hq]
  cases q
  all_goals
    go_enter Tryz.func112, Tryz.ntmps112
    go_wp2
    go_ret
    exact ⟨rfl, by (repeat (first | exact bl_refl | assumption | (apply bl_then; assumption) | refine bl_alloc ?_ _ | refine bl_drew ?_ | refine bl_drewN ?_ _))⟩
theorem compactK_any {v : Value} {base : Nat} (l : List Knot) (w : World) (h : OwK base w v l) (hlen : l.length ≤ 100000) :
    Calls Tryz.prog 111 #[v, .func (.func 112) #[] #[]] w fun e w' => ∃ v', e = .returned v' ∧ OwK base w' v' (ddL l) ∧ w.grownBy w' v.ownBlock := by
  by_cases hsm : l.length < 2
  · have hd : Hid (ddL l = l) := by
      unfold Hid
      match l, hsm with
      | [], _ => rfl
      | [a], _ => rfl
    have hs2 : ((l.length : Int) < 2) = True := by simp; omega
    obtain ⟨A, c, rfl⟩ := h.shape
    have HS := Lib.hid hsm
    clear hsm
    go_enter Tryz.func111, Tryz.ntmps111
    go_wp2
    go_ret
    exact ⟨_, rfl, by rw [hd.out]; exact h, World.grownBy.refl _ _⟩
  · obtain ⟨g, cap, cur, rfl, hgb, hnc, hgl0⟩ : ∃ g cap cur, v = .slice (some ⟨g, 0, none⟩) l.length cap ∧ w.heap[g]? = some (.cells cur 32 (0, 0)) ∧ l.length ≤ cap ∧ base ≤ g := by
      rcases h.2 with ⟨_, hn⟩ | ⟨g, cap, cur, rfl, hg, hh, hnc, _⟩
      · omega
      · exact ⟨g, cap, cur, rfl, hh, hnc, hg⟩
    have hs2 : ((l.length : Int) < 2) = False := by simp; omega
    obtain ⟨n, hn⟩ : ∃ n, l.length = n := ⟨_, rfl⟩
    have h2n : 2 ≤ n := by omega
    rw [hn] at h hlen hs2 hnc ⊢
    have hgl : g < w.heap.size := (Array.getElem?_eq_some_iff.1 hgb).1
    have HD0 : Hid (ddL (l.take 1) = l.take 1) := by
      unfold Hid
      match l, hn with
      | [], _ => rfl
      | a :: r, _ => simp [ddL, ddFrom]
    clear hgb hsm
    go_enter Tryz.func111, Tryz.ntmps111
    go_wp2
    go_loopw [5] (fun i wr => ∃ k : Nat, k + 1 ≤ n ∧ i = .int .i64 ((k : Int) + 1) ∧ Hid (ddL (l.take (k + 1)) = l.take (k + 1)) ∧ Below w.heap.size w wr) (fun i _ => n - (intOf i).toNat)
    case atStart => exact ⟨0, by omega, rfl, HD0, bl_refl⟩
    case round =>
      obtain ⟨k, hk, rfl, H, hbw⟩ := hrel
      obtain ⟨wo, rfl⟩ : ∃ x, x = wr := ⟨_, rfl⟩
      by_cases hlt : k + 1 < n
      · have how := h.below hbw
        have hk1 : k < l.length := by omega
        have hck : ¬ cap = k + 1 := by omega
        have hkt : ((k : Int) + 1 < (n : Int)) = True := by simp; omega
        have hk2 : k + 1 < l.length := by omega
        obtain ⟨c0, c1, c2⟩ := ownK_cells how hk1 hn
        obtain ⟨_, d1, d2⟩ := ownK_cells how hk2 hn
        have HD := Lib.hid (dd_take hk2)
        obtain ⟨⟨x1, y1⟩, e1⟩ : ∃ z, l[k] = z := ⟨_, rfl⟩
        obtain ⟨⟨x2, y2⟩, e2⟩ : ∃ z, l[k + 1] = z := ⟨_, rfl⟩
        have HE2 := Lib.hid e2
        rw [e1] at c1 c2 HD
        rw [e2] at d1 d2 HD
        clear e1 e2
        obtain ⟨q, hq⟩ : ∃ q, beqK x2 y2 x1 y1 = q := ⟨_, rfl⟩
        have he := fun W => keq_any x2 y2 x1 y1 W
        rw [hq] at he
        cases q
        · have hne : Hid (ddL (l.take (k + 1 + 1)) = l.take (k + 1 + 1)) := by
            unfold Hid
            have : l.take (k + 1 + 1) = l.take (k + 1) ++ [(x2, y2)] := by rw [List.take_succ_eq_append_getElem hk2, HE2.out]
            rw [this, ← this]
            have h3 := HD.out
            rw [if_neg (fun e => by rw [beqK_true.2 e] at hq; cases hq), H.out] at h3
            rw [show k + 1 + 1 = k + 2 from rfl, h3, ← this]
          clear HD hq
          go_wp2
          refine wp_region_ords [0, 1, 2, 3, 4, 5, 6, 7, 8, 9] [] [10] (by kernel_rfl) (by kernel_rfl) (fun d _ _ _ _ h => by cases d <;> exact h) ?_
          simp only [List.map_cons, List.map_nil, List.getD_cons_zero, List.getD_cons_succ]
          repeat (go_big_quiet_step (fail))
          refine wpQuiet_nil ?_
          refine wpMid_nil ?_
          go_wp2_with (go_at_call 112; refine (he _).mono ?_; rintro e w4 ⟨rfl, hb4⟩)
          go_roundw
          case rel => exact ⟨k + 1, by omega, by go_num, hne, by (repeat (first | exact bl_refl | assumption | (apply bl_then; assumption) | refine bl_alloc ?_ _ | refine bl_drew ?_ | refine bl_drewN ?_ _))⟩
          case measure => simp [intOf]; omega
        · have HT : Hid (ddL (l.take (k + 2)) = l.take (k + 1)) := by
            unfold Hid
            rw [HD.out, if_pos (beqK_true.1 hq), List.append_nil, H.out]
          clear HD hq
          go_wp2
          refine wp_region_ords [0, 1, 2, 3, 4, 5, 6, 7, 8, 9] [] [10] (by kernel_rfl) (by kernel_rfl) (fun d _ _ _ _ h => by cases d <;> exact h) ?_
          simp only [List.map_cons, List.map_nil, List.getD_cons_zero, List.getD_cons_succ]
          repeat (go_big_quiet_step (fail))
          refine wpQuiet_nil ?_
          refine wpMid_nil ?_
          go_wp2_with (go_at_call 112; refine (he _).mono ?_; rintro e w4 ⟨rfl, hb4⟩)
          have hbw4 : Below w.heap.size w w4 := by (repeat (first | exact bl_refl | assumption | (apply bl_then; assumption) | refine bl_alloc ?_ _ | refine bl_drew ?_ | refine bl_drewN ?_ _))
          have how4 := h.below hbw4
          clear how hb4 he
          go_loopw [5, 7] (fun i j wq => ∃ (a b : Nat) (l' : List Knot), k + b + 2 ≤ n ∧ a ≤ k + b + 1 ∧ i = .int .i64 a ∧ j = .int .i64 ((b : Int) + 1) ∧ Hid (l'.length = n) ∧ Hid (l'.take a = ddL (l.take (k + b + 2)) ∧ ∀ t, k + b + 1 ≤ t → l'[t]? = l[t]?) ∧ OwK base wq (.slice (some ⟨g, 0, none⟩) n cap) l' ∧ w.grownBy wq (some g)) (fun _ j _ => n - (intOf j).toNat)
          case atStart => exact ⟨k + 1, 0, l, by omega, by omega, by simp, rfl, hn, ⟨HT.out.symm, fun _ _ => rfl⟩, how4, gb_of hbw4⟩
          case round =>
            obtain ⟨a, b, l', hb2, ha, rfl, rfl, HL, HV, ho', hg'⟩ := hrel
            obtain ⟨wp, rfl⟩ : ∃ x, x = wr := ⟨_, rfl⟩
            have hgs := ho'.lt g (by simp [Value.ownBlock])
            by_cases hlt2 : k + b + 2 < n
            · have hc1 : ((b : Int) + 1 < ((n - (k + 1) : Nat) : Int)) = True := by simp; omega
              have hi1 : k + b + 1 < l'.length := by rw [HL.out]; omega
              have hi2 : k + b + 2 < l'.length := by rw [HL.out]; omega
              have hj1 : k + b + 1 < l.length := by omega
              have hj2 : k + b + 2 < l.length := by omega
              obtain ⟨c0, c1, c2⟩ := ownK_cells ho' hi1 HL.out
              obtain ⟨_, d1, d2⟩ := ownK_cells ho' hi2 HL.out
              rw [show (k + b + 1) * 2 = (k + 1) * 2 + b * 2 by omega] at c1 c2
              rw [show (k + b + 2) * 2 = (k + 1) * 2 + (b + 1) * 2 by omega] at d1 d2
              have hDD := dd_take (l := l) (m := k + b + 1) hj2
              have g1 : l'[k + b + 1] = l[k + b + 1] := by
                have := HV.out.2 (k + b + 1) (Nat.le_refl _)
                rw [List.getElem?_eq_getElem hi1, List.getElem?_eq_getElem hj1] at this
                exact Option.some.inj this
              have g2 : l'[k + b + 2] = l[k + b + 2] := by
                have := HV.out.2 (k + b + 2) (by omega)
                rw [List.getElem?_eq_getElem hi2, List.getElem?_eq_getElem hj2] at this
                exact Option.some.inj this
              obtain ⟨⟨x1, y1⟩, e1⟩ : ∃ z, l[k + b + 1] = z := ⟨_, rfl⟩
              obtain ⟨⟨x2, y2⟩, e2⟩ : ∃ z, l[k + b + 2] = z := ⟨_, rfl⟩
              rw [g1, e1] at c1 c2
              rw [g2, e2] at d1 d2
              have e2' : l[k + b + 1 + 1] = (x2, y2) := e2
              rw [e1, e2'] at hDD
              have HDD := Lib.hid hDD
              have HG2 := Lib.hid (g2.trans e2)
              clear e1 e2 e2' g1 g2 hDD
              obtain ⟨q, hq⟩ : ∃ q, beqK x2 y2 x1 y1 = q := ⟨_, rfl⟩
              have han : a < n := by omega
              have he2 := fun W => keq_any x2 y2 x1 y1 W
              rw [hq] at he2
              cases q
              · have hset : Hid ((l'.set a (x2, y2)).take (a + 1) = ddL (l.take (k + (b + 1) + 2)) ∧ ∀ t, k + (b + 1) + 1 ≤ t → (l'.set a (x2, y2))[t]? = l[t]?) := by
                  refine ⟨?_, fun t ht => ?_⟩
                  · have hal : a < (l'.set a (x2, y2)).length := by rw [List.length_set, HL.out]; omega
                    rw [List.take_succ_eq_append_getElem hal, List.getElem_set_self, List.take_set_of_le (Nat.le_refl _), HV.out.1, show k + (b + 1) + 2 = k + b + 1 + 2 by omega, HDD.out, if_neg (fun e => by rw [beqK_true.2 e] at hq; cases hq)]
                  · rw [List.getElem?_set_ne (by omega)]
                    exact HV.out.2 t (by omega)
                clear hq HDD
                go_wp2
                refine wp_region_ords [0, 1, 2, 3, 4, 5, 6, 7, 8, 9] [] [10, 11] (by kernel_rfl) (by kernel_rfl) (fun d _ _ _ _ h => by cases d <;> exact h) ?_
                simp only [List.map_cons, List.map_nil, List.getD_cons_zero, List.getD_cons_succ]
                repeat (go_big_quiet_step (fail))
                refine wpQuiet_nil ?_
                refine wpMid_nil ?_
                go_wp2_with fail
                refine (he2 _).mono ?_
                rintro e w6 ⟨rfl, hb6⟩
                have hb6' : Below wp.heap.size wp w6 := by (repeat (first | exact bl_refl | assumption | (apply bl_then; assumption) | refine bl_alloc ?_ _ | refine bl_drew ?_ | refine bl_drewN ?_ _))
                have ho6 := ho'.below hb6'
                obtain ⟨_, f1, f2⟩ := ownK_cells ho6 hi2 HL.out
                rw [show (k + b + 2) * 2 = (k + 1) * 2 + (b + 1) * 2 by omega, HG2.out] at f1 f2
                simp only at f1 f2
                have hg6 := hg'.trans (gb_of hb6')
                clear c1 c2 d1 d2
                go_wp2_with (refine wpList_store_ownK ho6 HL.out han rfl _ _ rfl rfl rfl ?_; intro w7 hown7 hgr7)
                go_roundw
                case rel => exact ⟨a + 1, b + 1, _, by omega, by omega, by go_num, by go_num, by unfold Hid; rw [List.length_set]; exact HL.out, hset, hown7, hg6.trans hgr7⟩
                case measure => simp [intOf]; omega
              · have hset : Hid (l'.take a = ddL (l.take (k + (b + 1) + 2)) ∧ ∀ t, k + (b + 1) + 1 ≤ t → l'[t]? = l[t]?) := by
                  refine ⟨?_, fun t ht => HV.out.2 t (by omega)⟩
                  rw [HV.out.1, show k + (b + 1) + 2 = k + b + 1 + 2 by omega, HDD.out, if_pos (beqK_true.1 hq), List.append_nil]
                clear hq HDD
                go_wp2
                refine wp_region_ords [0, 1, 2, 3, 4, 5, 6, 7, 8, 9] [] [10, 11] (by kernel_rfl) (by kernel_rfl) (fun d _ _ _ _ h => by cases d <;> exact h) ?_
                simp only [List.map_cons, List.map_nil, List.getD_cons_zero, List.getD_cons_succ]
                repeat (go_big_quiet_step (fail))
                refine wpQuiet_nil ?_
                refine wpMid_nil ?_
                go_wp2_with (go_at_call 112; refine (he2 _).mono ?_; rintro e w6 ⟨rfl, hb6⟩)
                have hb6' : Below wp.heap.size wp w6 := by (repeat (first | exact bl_refl | assumption | (apply bl_then; assumption) | refine bl_alloc ?_ _ | refine bl_drew ?_ | refine bl_drewN ?_ _))
                go_roundw
                case rel => exact ⟨a, b + 1, l', by omega, by omega, rfl, by go_num, HL, hset, ho'.below hb6', hg'.trans (gb_of hb6')⟩
                case measure => simp [intOf]; omega
            · have hbn : k + b + 2 = n := by omega
              have hc1 : ((b : Int) + 1 < ((n - (k + 1) : Nat) : Int)) = False := by simp; omega
              have han : a ≤ n := by omega
              have hac : ¬ cap = a := by omega
              have HR : Hid (l'.take a = ddL l) := by
                unfold Hid
                rw [HV.out.1, List.take_of_length_le (by omega)]
              obtain ⟨W9, hclr, hgr9, ho9⟩ := run_clrK ho' HL.out a (n - a) (cap - a) (by omega) (by omega) 0
              go_wp2
              go_ret
              exact ⟨_, rfl, by rw [← HR.out]; exact ho9, hg'.trans hgr9⟩
      · have hkn : k + 1 = n := by omega
        have hd : Hid (ddL l = l) := by
          unfold Hid
          have := H.out
          rw [List.take_of_length_le (by omega)] at this
          exact this
        have hO := h.below hbw
        go_wp2
        go_ret
        exact ⟨_, rfl, by rw [hd.out]; exact hO, gb_of hbw⟩
end Go.Proofs.YtpompeancmonbaaGreat

/- Sets of bars, of the reference; bars mirrored, turned, shifted, walked. Conditions: bars within bounds. -/
namespace Go.Proofs.YtpompeancmonbaaGreat
open Go.RowKit Go.ChangeMaps
set_option maxHeartbeats 4000000
set_option maxRecDepth 100000

/-- the bars of a list that are in another one -/
def meetL (l a : List Bar) : List Bar := l.filter fun b => hasb a b
theorem meetL_take {l : List Bar} {k : Nat} (hk : k < l.length) (a : List Bar) : meetL (l.take (k + 1)) a = meetL (l.take k) a ++ if hasb a l[k] then [l[k]] else [] := by
  unfold meetL
  rw [List.take_succ_eq_append_getElem hk, List.filter_append]
  cases h : hasb a l[k] <;> simp [h]
theorem meetL_len (l a : List Bar) : (meetL l a).length ≤ l.length := List.length_filter_le _ _

def nearKN (k : Knot) : Prop := (-1000000 ≤ k.1 ∧ k.1 ≤ 1000000) ∧ (-1000000 ≤ k.2 ∧ k.2 ≤ 1000000)
theorem map_take {α β : Type} (f : α → β) {l : List α} {k : Nat} (hk : k < l.length) : (l.take (k + 1)).map f = (l.take k).map f ++ [f l[k]] := by
  rw [List.take_succ_eq_append_getElem hk, List.map_append]; rfl
end Go.Proofs.YtpompeancmonbaaGreat

/- Bars turned, of the reference, walked. Conditions: bars within bounds. -/
namespace Go.Proofs.YtpompeancmonbaaGreat
open Go.RowKit Go.ChangeMaps
set_option maxHeartbeats 4000000
set_option maxRecDepth 100000

/-- the bar turned by a quarter -/
def turnB (b : Bar) : Bar := btwB (-b.2.1, b.1) (-(b.2.1 + 1), b.1 + b.2.2)
def turF (x y x1 y1 : Int) (n₀ : Nat) (i : Nat) (v : Value) (W : World) : Prop :=
  (i = 4 → v = .agg #[.int .i64 x, .int .i64 y]) ∧ (i = 9 → v = .agg #[.int .i64 x1, .int .i64 y1]) ∧
  ((i = 10 ∨ i = 11) → ∃ g, v = .pointer (some ⟨g, 0, none⟩) ∧ n₀ ≤ g ∧ Blk W g 32 #[.int .i64 0, .int .i64 0])
theorem turF_st (x y x1 y1 : Int) (n₀ : Nat) : ∀ i v W W', turF x y x1 y1 n₀ i v W → Below W.heap.size W W' → turF x y x1 y1 n₀ i v W' := fun i v W W' h hb =>
  ⟨h.1, h.2.1, fun hi => by obtain ⟨g, h1, h0, h2⟩ := h.2.2 hi; exact ⟨g, h1, h0, h2.below hb⟩⟩
/-- a bar shifted -/
def shB (d : Knot) (b : Bar) : Bar := (b.1 + d.1, b.2.1 + d.2, b.2.2)
/-- both ends of a bar are in their range -/
def inBN (b : Bar) : Bool := !farB b.1 && !farB b.2.1 && !farB (b.1 + b.2.2) && !farB (b.2.1 + 1)
def allIn (l : List Bar) : Bool := l.all inBN
theorem allIn_take {l : List Bar} {f : Bar → Bar} {k : Nat} (hk : k < l.length) : allIn ((l.take (k + 1)).map f) = (allIn ((l.take k).map f) && inBN (f l[k])) := by
  rw [map_take f hk]; unfold allIn; rw [List.all_append]; simp
end Go.Proofs.YtpompeancmonbaaGreat

/- Bars shifted, of the reference, walked. Conditions: bars within bounds. -/
namespace Go.Proofs.YtpompeancmonbaaGreat
open Go.RowKit Go.ChangeMaps
set_option maxHeartbeats 4000000
set_option maxRecDepth 100000

/-- a row of bars of the call's own and a truth value -/
def RBB (w : World) (l : List Bar) (b : Bool) (e : Ending) (w' : World) : Prop := ∃ v, e = .returned (.tuple #[v, .bool b]) ∧ OwB w.heap.size w' v l ∧ Below w.heap.size w w'
theorem allIn_nil : allIn [] = true := rfl
end Go.Proofs.YtpompeancmonbaaGreat

/- The knots of a net, of the reference, walked. Conditions: bars within bounds. -/
namespace Go.Proofs.YtpompeancmonbaaGreat
open Go.RowKit Go.ChangeMaps
set_option maxHeartbeats 4000000
set_option maxRecDepth 100000

/-- the ends of the bars, one by one -/
def endsL (l : List Bar) : List Knot := l.flatMap fun b => [lowK b, uppK b]
theorem endsL_len (l : List Bar) : (endsL l).length = 2 * l.length := by
  induction l with
  | nil => rfl
  | cons b r ih => simp only [endsL, List.flatMap_cons, List.length_append, List.length_cons, List.length_nil] at ih ⊢; omega
theorem endsL_get : ∀ (l : List Bar) (i : Nat) (b : Bar), l[i / 2]? = some b → (endsL l)[i]? = some (endK b (i % 2))
  | [], i, b, h => by simp at h
  | x :: r, 0, b, h => by
    obtain rfl : x = b := by simpa using h
    rfl
  | x :: r, 1, b, h => by
    obtain rfl : x = b := by simpa using h
    rfl
  | x :: r, i + 2, b, h => by
    have e : (i + 2) / 2 = i / 2 + 1 := by omega
    rw [e, List.getElem?_cons_succ] at h
    have := endsL_get r i b h
    rw [show (i + 2) % 2 = i % 2 by omega]
    simpa [endsL] using this
theorem holeIn_ends : ∀ (l : List Bar) (o : List Knot), holeIn o l = (endsL l).foldl insK o
  | [], o => rfl
  | b :: r, o => by
    show holeIn (insK (insK o (lowK b)) (uppK b)) r = _
    rw [holeIn_ends r]
    rfl
def kIn (l : List Bar) (n : Nat) : List Knot := ((endsL l).take n).foldl insK []
theorem kIn_all {l : List Bar} {n : Nat} (h : 2 * l.length ≤ n) : kIn l n = holeK l := by
  unfold kIn holeK
  rw [holeIn_ends, List.take_of_length_le (by rw [endsL_len]; exact h)]
theorem kIn_succ {l : List Bar} {i : Nat} (h : i / 2 < l.length) : kIn l (i + 1) = insK (kIn l i) (endK l[i / 2] (i % 2)) := by
  have h1 := endsL_get l i l[i / 2] (List.getElem?_eq_getElem h)
  obtain ⟨hi, he⟩ := List.getElem?_eq_some_iff.1 h1
  unfold kIn
  rw [List.take_succ_eq_append_getElem hi, List.foldl_append, he]; rfl
theorem foldK_len : ∀ (m o : List Knot), (m.foldl insK o).length ≤ o.length + m.length
  | [], o => by simp
  | k :: m, o => by
    have h := foldK_len m (insK o k)
    have h1 := insK_len k o
    simp only [List.foldl_cons, List.length_cons]
    omega
theorem kIn_len (l : List Bar) (n : Nat) : (kIn l n).length ≤ 2 * l.length := by
  have := foldK_len ((endsL l).take n) []
  have h2 : ((endsL l).take n).length ≤ (endsL l).length := by rw [List.length_take]; omega
  rw [endsL_len] at h2
  simp only [List.length_nil] at this
  unfold kIn
  omega
theorem rends_any (x y s : Int) (hx : -1000000 ≤ x ∧ x ≤ 1000000) (hy : -1000000 ≤ y ∧ y ≤ 1000000) (hs : -10 ≤ s ∧ s ≤ 10) (w : World) :
    Calls Tryz.prog 60 #[.agg #[.int .i64 x, .int .i64 y, .int .i64 s]] w (RV w (.agg #[.int .i64 x, .int .i64 y, .int .i64 (x + s), .int .i64 (y + 1)])) := by
  have hB := (Blk.new w 46 #[.int .i64 x, .int .i64 y, .int .i64 s]).alloc (.cells #[.int .i64 0, .int .i64 0, .int .i64 0, .int .i64 0] 115)
  have hR := Blk.new1 w (.cells #[.int .i64 x, .int .i64 y, .int .i64 s] 46) 115 #[.int .i64 0, .int .i64 0, .int .i64 0, .int .i64 0]
  have fB := hB.facts
  go_enter Tryz.func60, Tryz.ntmps60
  go_wp2
  refine wp_region_ords [0, 2] [(1, false)] [3, 4, 5] (by kernel_rfl) (by kernel_rfl) (fun d _ _ _ _ h => by cases d <;> exact h) ?_
  simp only [List.map_cons, List.map_nil, List.getD_cons_zero, List.getD_cons_succ]
  repeat (go_big_quiet_step (fail))
  refine wpQuiet_nil ?_
  refine wpMid_run rfl (fun K hK => ?_)
  go_simp
  refine (rlower_any _ _ _ _).mono ?_
  rintro e w1 ⟨rfl, hb1⟩
  refine hK _ _ (by (repeat (first | exact bl_refl | assumption | (apply bl_then; assumption) | refine bl_alloc ?_ _ | refine bl_drew ?_ | refine bl_drewN ?_ _))) ?_
  clear hK K
  refine wpMid_nil ?_
  have hB1 := hB.drew.below hb1
  have hR1 := hR.drew.below hb1
  have fB1 := hB1.facts
  go_wp2_with fail
  refine (rupper_any _ _ _ hx hy hs _).mono ?_
  rintro e w2 ⟨rfl, hb2⟩
  have hR2 := hR1.below hb2
  have hb12 : Below w.heap.size w w2 := by (repeat (first | exact bl_refl | assumption | (apply bl_then; assumption) | refine bl_alloc ?_ _ | refine bl_drew ?_ | refine bl_drewN ?_ _))
  go_wp2_with (refine wpList_store_blk hR2 rfl _ _ _ rfl rfl rfl (by rfl) (by kernel_rfl) (by kernel_rfl) ?_; intro w4 hR4 hc4; have fR4 := hR4.facts)
  have hb4 : Below w.heap.size w w4 := ((Chg.of_below hb12).trans (hc4.mono (S' := [w.heap.size + 1]) (by simp))).below (by simp) (Nat.le_refl _)
  refine bodyPost_ret (v := .agg #[.int .i64 x, .int .i64 y, .int .i64 (x + s), .int .i64 (y + 1)]) (by simp [results, Tryz.results60, go_sem, fR4]) rfl ?_
  exact ⟨rfl, by (repeat (first | exact bl_refl | assumption | (apply bl_then; assumption) | refine bl_alloc ?_ _ | refine bl_drew ?_ | refine bl_drewN ?_ _))⟩
end Go.Proofs.YtpompeancmonbaaGreat

/- A torn net moved, plain. Conditions: the torn net has no error. -/
import Derived.Test.YtpompeancmonbaaGreatE08
import Derived.Test.YtpompeancmonbaaGreatE17
import Derived.Test.YtpompeancmonbaaGreatE23
import Derived.Test.YtpompeancmonbaaGreatE22
import Derived.Test.YtpompeancmonbaaGreatE24
import Derived.Test.YtpompeancmonbaaGreatE26
import Derived.Test.YtpompeancmonbaaGreatE14
import Derived.Test.YtpompeancmonbaaGreatE38
import Derived.Test.YtpompeancmonbaaGreatE41
import Derived.Test.YtpompeancmonbaaGreatE25
import Derived.Test.YtpompeancmonbaaGreatE35
import Derived.Test.YtpompeancmonbaaGreatE13
import Derived.Test.YtpompeancmonbaaGreatE27
import Derived.RangeFuncNested
import Derived.RangeFuncBound
import Derived.RangeFuncCalls
import Derived.RangeFuncLeaves
import Derived.RangeFuncBox
import Derived.Test.YtpompeancmonbaaGreatE29
namespace Go.Proofs.YtpompeancmonbaaGreat
open Go.RowKit Go.ChangeMaps
set_option maxHeartbeats 4000000
set_option maxRecDepth 100000

/-! ## a torn net moved: shifted, mirrored, turned upside down -/
theorem farB_in {n : Int} (h : farB n = false) : -100000 ≤ n ∧ n ≤ 100000 := by
  unfold farB at h
  simp only [Bool.or_eq_false_iff, decide_eq_false_iff_not] at h
  omega
theorem bar_zero {b : Bar} (h : barE b.1 b.2.1 b.2.2 = 0) : knotE b.1 b.2.1 = 0 ∧ Sided b ∧ knotE (b.1 + b.2.2) (b.2.1 + 1) = 0 := by
  unfold barE at h
  split at h
  · rename_i q; exact absurd h q
  · rename_i q
    split at h
    · cases h
    · rename_i q2
      exact ⟨Decidable.byContradiction fun e => q e, by unfold Sided; omega, h⟩
theorem bar_yes {x y s : Int} (h1 : knotE x y = 0) (h2 : s = 1 ∨ s = -1) (h3 : knotE (x + s) (y + 1) = 0) : barE x y s = 0 := by
  unfold barE
  rw [if_neg (by rw [h1]; simp), if_neg (by omega), h3]
theorem sh_barE {d : Knot} {b : Bar} (hp : (d.1 + d.2) % 2 = 0) (h : barE b.1 b.2.1 b.2.2 = 0) (hi : inBN (shB d b) = true) : barE (shB d b).1 (shB d b).2.1 (shB d b).2.2 = 0 := by
  obtain ⟨h1, h2, h3⟩ := bar_zero h
  have p1 := (knotE_zero h1).2.2.2.2
  unfold inBN at hi
  simp only [Bool.and_eq_true, Bool.not_eq_true'] at hi
  obtain ⟨⟨⟨i1, i2⟩, i3⟩, i4⟩ := hi
  have j1 := farB_in i1
  have j2 := farB_in i2
  have j3 := farB_in i3
  have j4 := farB_in i4
  obtain ⟨x, y, s⟩ := b
  obtain ⟨p, q⟩ := d
  unfold shB at *
  simp only at *
  unfold Sided at h2
  simp only at h2
  show barE (x + p) (y + q) s = 0
  exact bar_yes (knotE_yes j1 j2 (by omega)) h2 (knotE_yes j3 j4 (by rcases h2 with rfl | rfl <;> omega))
theorem sh_netE {d : Knot} {l : List Bar} (hp : (d.1 + d.2) % 2 = 0) (h : netE l = 0) (ha : allIn (l.map (shB d)) = true) : netE (l.map (shB d)) = 0 := by
  refine netE_zero (fun b hb => ?_) (shift_sorted (netE_ok h).sorted d) (by rw [List.length_map]; exact (netE_ok h).len)
  obtain ⟨c, hc, rfl⟩ := List.mem_map.1 hb
  exact sh_barE hp (netE_bars h c hc) (List.all_eq_true.1 ha _ hb)
theorem allIn_sub {N D : List Bar} {d : Knot} (h : ∀ b ∈ D, b ∈ N) (ha : allIn (N.map (shB d)) = true) : allIn (D.map (shB d)) = true := by
  unfold allIn at *
  rw [List.all_eq_true] at *
  intro x hx
  obtain ⟨c, hc, rfl⟩ := List.mem_map.1 hx
  exact ha _ (List.mem_map.2 ⟨c, h c hc, rfl⟩)
theorem tornE_yes {N D : List Bar} (h1 : netE N = 0) (h2 : netE D = 0) (h : ∀ b ∈ D, b ∈ N) : tornE N D = 0 := by
  unfold tornE
  rw [h1, h2, unk_sub h]
  rfl
theorem sh_tornE {N D : List Bar} {d : Knot} (hp : (d.1 + d.2) % 2 = 0) (hE : tornE N D = 0) (ha : allIn (N.map (shB d)) = true) : tornE (N.map (shB d)) (D.map (shB d)) = 0 := by
  have hok := torn_ok hE
  refine tornE_yes (sh_netE hp (torn_nets hE).1 ha) (sh_netE hp (torn_nets hE).2 (allIn_sub hok.sub ha)) fun b hb => ?_
  obtain ⟨c, hc, rfl⟩ := List.mem_map.1 hb
  exact List.mem_map.2 ⟨c, hok.sub c hc, rfl⟩
theorem noneE_of {N D : List Bar} (hE : tornE N D = 0) : noneE N D = whenI (decide (D.length = 0)) 7 := by
  unfold noneE
  rw [hE]
  unfold firstI
  rw [if_pos rfl]
  unfold firstI
  split
  · rename_i q; rw [q]; rfl
  · rfl
theorem sh_run {N D : List Bar} {d : Knot} (hE : tornE N D = 0) (hE' : tornE (N.map (shB d)) (D.map (shB d)) = 0) : runE (N.map (shB d)) (D.map (shB d)) = runE N D ∧ runL (N.map (shB d)) (D.map (shB d)) = (runL N D).map (shK d) := by
  have e : noneE (N.map (shB d)) (D.map (shB d)) = noneE N D := by rw [noneE_of hE, noneE_of hE', List.length_map]
  unfold runE runL
  rw [e, sh_rdy, sh_runO]
  refine ⟨rfl, ?_⟩
  split
  · cases runO D <;> rfl
  · rfl
theorem sh_leastP {N D : List Bar} {d : Knot} (m : Int) (hE : tornE N D = 0) (hE' : tornE (N.map (shB d)) (D.map (shB d)) = 0) : leastP (N.map (shB d)) (D.map (shB d)) m = leastP N D m := by
  unfold leastP
  rw [hE, hE', List.length_map]
theorem sh_trim {N D : List Bar} {d : Knot} (m : Int) (hE : tornE N D = 0) (hE' : tornE (N.map (shB d)) (D.map (shB d)) = 0) : leastE (N.map (shB d)) (D.map (shB d)) m = leastE N D m ∧ leastL (N.map (shB d)) (D.map (shB d)) m = (leastL N D m).map (shB d) := by
  have e : leastE (N.map (shB d)) (D.map (shB d)) m = leastE N D m := by
    unfold leastE
    rw [sh_leastP m hE hE', sh_least]
    cases leastO N D m <;> rfl
  refine ⟨e, ?_⟩
  unfold leastL
  rw [e, sh_least]
  split
  · cases leastO N D m <;> rfl
  · rfl
theorem rtrF_mem {D S : List Bar} : ∀ (f n : Nat) (z : List Bar), rtrF D S f n = some z → z.Sublist S ∧ z.length < f + n
  | 0, _, _, h => by unfold rtrF at h; cases h
  | f + 1, n, z, h => by
    unfold rtrF at h
    cases hx : rls n D S with
    | none =>
      rw [hx] at h
      obtain ⟨h1, h2⟩ := rtrF_mem f (n + 1) z h
      exact ⟨h1, by omega⟩
    | some x =>
      rw [hx] at h
      obtain rfl : x = z := by simpa using h
      obtain ⟨h1, h2, _⟩ := rls_some n D S x hx
      exact ⟨h1, by omega⟩
theorem least_in {N D : List Bar} (hE : tornE N D = 0) : (leastL N D 2).length ≤ 2 ∧ ∀ b ∈ leastL N D 2, BarOk b := by
  have hok := torn_ok hE
  unfold leastL
  split
  · unfold leastO
    rw [trimF_rtrF hok]
    cases hx : rtrF D (wout N D) ((2 : Int).toNat + 1) 0 with
    | none => exact ⟨by simp, fun b hb => by cases hb⟩
    | some z =>
      obtain ⟨h1, h2⟩ := rtrF_mem _ _ z hx
      exact ⟨by simp only [Option.getD_some]; omega, fun b hb => hok.net.ok b ((wout_mem.1 (h1.subset hb)).1)⟩
  · exact ⟨by simp, fun b hb => by cases hb⟩
theorem run_near {N D : List Bar} (hE : tornE N D = 0) : ∀ k ∈ runL N D, -200002 ≤ k.1 ∧ k.1 ≤ 200002 ∧ -200002 ≤ k.2 ∧ k.2 ≤ 200002 := by
  have hok := torn_ok hE
  intro x hx
  unfold runL at hx
  split at hx
  · cases hR : runO D with
    | none => rw [hR] at hx; cases hx
    | some W =>
      rw [hR] at hx
      obtain ⟨k, L, rfl, A⟩ := run_at hR
      simp only [Option.getD_some] at hx
      unfold pathK at hx
      obtain ⟨t, ht, rfl⟩ := List.mem_map.1 hx
      have ht' := List.mem_range.1 ht
      by_cases h : t < L
      · obtain ⟨a1, a2⟩ := A.ok t h
        exact arm_near a1 (hok.dam.ok _ a2)
      · obtain rfl : t = L := by omega
        obtain ⟨a, ha, hm⟩ := legs_arm.1 (cnt_ne (n := 0) A.last)
        exact arm_near ha (hok.dam.ok _ hm)
  · cases hx
theorem mir_N {l : List Bar} (h : netE l = 0) : mirN l = mirL l := by
  have hok := netE_ok h
  exact sortedB_eq (mirN_sorted hok.nodup) (mirL_sorted hok.nodup) fun x => by rw [mirN_mem, mirL_mem]
theorem tu_mem {l : List Bar} (hd : ∀ b ∈ l, Sided b) (x : Bar) : x ∈ turnN 2 l ↔ ∃ b ∈ l, t2B b = x := by
  rw [turnN_mem]
  constructor
  · rintro ⟨c, hc, rfl⟩
    obtain ⟨b, hb, rfl⟩ := (turnN_mem l c 0).1 hc
    exact ⟨b, hb, (turnB_two (hd b hb)).symm⟩
  · rintro ⟨b, hb, rfl⟩
    exact ⟨turnB b, (turnN_mem l _ 0).2 ⟨b, hb, rfl⟩, turnB_two (hd b hb)⟩
theorem tu_mem' {l : List Bar} (hd : ∀ b ∈ l, Sided b) (x : Bar) : x ∈ turnN 2 l ↔ t2B x ∈ l := by
  rw [tu_mem hd]
  exact ⟨fun ⟨b, hb, e⟩ => by rw [← e, t2B_t2B]; exact hb, fun h => ⟨_, h, t2B_t2B x⟩⟩
theorem t2_barE {b : Bar} (h : barE b.1 b.2.1 b.2.2 = 0) : barE (t2B b).1 (t2B b).2.1 (t2B b).2.2 = 0 := by
  obtain ⟨h1, h2, h3⟩ := bar_zero h
  obtain ⟨x, y, s⟩ := b
  have q1 := knotE_zero h1
  have q3 := knotE_zero h3
  unfold Sided at h2
  unfold t2B
  simp only at *
  show barE (-x - s) (-y - 1) s = 0
  exact bar_yes (knotE_yes (by omega) (by omega) (by rcases h2 with rfl | rfl <;> omega)) h2 (knotE_yes (by omega) (by omega) (by omega))
theorem tu_netE {l : List Bar} (h : netE l = 0) : netE (turnN 2 l) = 0 := by
  have hok := netE_ok h
  have hd : ∀ b ∈ l, Sided b := fun b hb => (hok.ok b hb).2.2
  refine netE_zero (fun b hb => ?_) (turnN_sorted hok.sorted hd 2) (by rw [turnN_len]; exact hok.len)
  obtain ⟨c, hc, rfl⟩ := (tu_mem hd b).1 hb
  exact t2_barE (netE_bars h c hc)
theorem tu_tornE {N D : List Bar} (hE : tornE N D = 0) : tornE (turnN 2 N) (turnN 2 D) = 0 := by
  have hok := torn_ok hE
  refine tornE_yes (tu_netE (torn_nets hE).1) (tu_netE (torn_nets hE).2) fun b hb => ?_
  rw [tu_mem' fun b hb => (hok.dam.ok b hb).2.2] at hb
  rw [tu_mem' fun b hb => (hok.net.ok b hb).2.2]
  exact hok.sub _ hb
theorem tu_rdy {N D : List Bar} (hE : tornE N D = 0) (h4 : ∀ k, cnt (legsAt D k) ≠ 4) : rdyB (turnN 2 D) = rdyB D :=
  t2_rdy (tu_mem' fun b hb => ((torn_ok hE).dam.ok b hb).2.2) h4 (turnN_len D 2)
theorem mN_tornE {N D : List Bar} (hE : tornE N D = 0) : tornE (mirN N) (mirN D) = 0 := by
  rw [mir_N (torn_nets hE).1, mir_N (torn_nets hE).2]
  exact mir_tornE hE
theorem mN_rdy {N D : List Bar} (hE : tornE N D = 0) : rdyB (mirN D) = rdyB D := by
  rw [mir_N (torn_nets hE).2]
  exact mir_rdy (torn_ok hE).dam.sorted fun b hb => ((torn_ok hE).dam.ok b hb).2.2
end Go.Proofs.YtpompeancmonbaaGreat

/- What a round of a range over a function keeps; appends in a round. Conditions: none. -/
namespace Go.Proofs.YtpompeancmonbaaGreat
open Go.RowKit Go.ChangeMaps
set_option maxHeartbeats 4000000
set_option maxRecDepth 100000

attribute [local go_sem] Oper.semAt_some
section
variable {S : List Nat} {n₀ : Nat} {A B C w : World}
end
/-! ## an append within a round; what a round's invariant abides -/
section
variable {F : Fence} {n : Nat} {α : Type} {enc : α → List Value} {sz : Nat} {e : TypeId} {w : World} {P : Program}
end
theorem wpListIn_pass {P : Program} {F : Fence} {n : Nat} {ops : Array Oper} {rest : List Oper} {o : Oper} {a : Act} {Q : Exit → Act → World → Prop} {w : World} (hw : Region.wanted o (yielded ops a.tmps) = false) (hF : ∀ f, F.fn f) (h : wpListIn F n P ops Q rest (a.put o.dst undef) w) : wpListIn F n P ops Q (o :: rest) a w := by
  simp only [wpListIn, hw]
  exact ⟨fun f _ => hF f, h⟩
theorem keeps_chg {B g : Nat} {t : TypeId} {cs : Array Value} {w w' : World} (hB : Blk w g t cs) (hc : Chg [g] w w') : KeepsFrom B w w' :=
  ⟨hc.size, fun k o _ hk h => (hc.block k (Array.getElem?_eq_some_iff.1 hk).1 (fun hm => by
    obtain rfl : k = g := by simpa using hm
    unfold Blk at hB
    rw [hB] at hk
    cases hk
    cases h)).trans hk⟩
end Go.Proofs.YtpompeancmonbaaGreat

/- The bars of a sheet, of the program, walked. Conditions: small sheets. -/
namespace Go.Proofs.YtpompeancmonbaaGreat
open Go.RowKit Go.ChangeMaps
set_option maxHeartbeats 4000000
set_option maxRecDepth 100000

attribute [local go_sem] Oper.semAt_some
theorem wpListIn_appB1 {F : Fence} {n : Nat} {ops : Array Oper} {rest : List Oper} {o : Oper} {a : Act} {Q : Exit → Act → World → Prop} {base : Nat} {W : World} {v : Value} {X Y S : Int} {l : List Bar} (hown : OwB base W v l) {g : Nat} (hgd : o.guard = none) (s x : Operand)
    (ho : o.op = .call { callee := .builtin .append, args := #[s, x], argTypes := #[22, 22] })
    (hs : a.eval s = v) (hx : a.eval x = .slice (some ⟨g, 0, none⟩) 1 1) (hg : W.heap.size = g) (hlen : l.length ≤ 1000000) (hbase : base ≤ W.heap.size)
    (h : ∀ v' w', OwB base w' v' (l ++ [(X, Y, S)]) → (W.alloc (.cells #[.int .i64 X, .int .i64 Y, .int .i64 S] 46)).grownBy w' v.ownBlock → wpListIn F n Tryz.prog ops Q rest (a.put o.dst v') w') :
    wpListIn F n Tryz.prog ops Q (o :: rest) a (W.alloc (.cells #[.int .i64 X, .int .i64 Y, .int .i64 S] 46)) := by
  subst hg
  exact wpListIn_app hgd bar_elem bc_len bc_one s x ho base v _ l [(X, Y, S)] hs hx (hown.alloc _) (Sl.one_bar W X Y S) (by simp [maxLen]; omega) (by simp; omega) (by simp; omega) h
/-! ## the bars of a sheet -/
def sdB (x0 : Int) (c : Nat) (b : Bar) : List Bar := if x0 ≤ b.1 + b.2.2 ∧ b.1 + b.2.2 ≤ x0 + 2 * c then [b] else []
def shT (x0 : Int) (c : Nat) (x y : Int) : Nat → List Bar
  | 0 => []
  | t + 1 => shT x0 c x y t ++ sdB x0 c (x, y, 2 * (t : Int) - 1)
def shI (x0 : Int) (c : Nat) (y : Int) (n : Nat) : Nat → List Bar
  | 0 => []
  | i + 1 => shI x0 c y n i ++ shT x0 c (x0 + (n % 2 : Nat) + 2 * (i : Int)) y 2
/-- the bars of the first n rows of a sheet, in the order in which they are visited -/
def shN (x0 y0 : Int) (c : Nat) : Nat → List Bar
  | 0 => []
  | n + 1 => shN x0 y0 c n ++ shI x0 c (y0 + (n : Int)) n (c + 1 - n % 2)
theorem sdB_len (x0 : Int) (c : Nat) (b : Bar) : (sdB x0 c b).length ≤ 1 := by unfold sdB; split <;> simp
theorem shT_len (x0 : Int) (c : Nat) (x y : Int) : ∀ t, (shT x0 c x y t).length ≤ t
  | 0 => Nat.le_refl _
  | t + 1 => by
    have := shT_len x0 c x y t
    have := sdB_len x0 c (x, y, 2 * (t : Int) - 1)
    rw [shT, List.length_append]; omega
theorem shI_len (x0 : Int) (c : Nat) (y : Int) (n : Nat) : ∀ i, (shI x0 c y n i).length ≤ 2 * i
  | 0 => Nat.le_refl _
  | i + 1 => by
    have := shI_len x0 c y n i
    have := shT_len x0 c (x0 + (n % 2 : Nat) + 2 * (i : Int)) y 2
    rw [shI, List.length_append]; omega
theorem shN_len (x0 y0 : Int) (c : Nat) : ∀ n, (shN x0 y0 c n).length ≤ n * (2 * (c + 1))
  | 0 => by simp [shN]
  | n + 1 => by
    have := shN_len x0 y0 c n
    have := shI_len x0 c (y0 + (n : Int)) n (c + 1 - n % 2)
    rw [shN, List.length_append, Nat.succ_mul]
    omega
theorem sheet_any (x y c r : Int) (w : World) : Calls Tryz.prog 76 #[.agg #[.int .i64 x, .int .i64 y], .int .i64 c, .int .i64 r] w fun e w' =>
    e = .returned (.func (.func 115) #[] #[.pointer (some ⟨w.heap.size + 2, 0, none⟩), .pointer (some ⟨w.heap.size, 0, none⟩), .pointer (some ⟨w.heap.size + 1, 0, none⟩)]) ∧
    w' = ((w.alloc (.cells #[.int .i64 x, .int .i64 y] 32)).alloc (.cells #[.int .i64 c] 3)).alloc (.cells #[.int .i64 r] 3) := by
  go_enter Tryz.func76, Tryz.ntmps76
  go_wp2
  go_ret
  exact ⟨rfl, rfl⟩
@[go_sem] theorem idx2i_0 (w : World) : (Instr.index 135 (.agg #[.int .i64 (-1), .int .i64 1]) (.int .i64 0)).run Tryz.prog w = .ok (.int .i64 (-1)) w := by kernel_rfl
@[go_sem] theorem idx2i_1 (w : World) : (Instr.index 135 (.agg #[.int .i64 (-1), .int .i64 1]) (.int .i64 1)).run Tryz.prog w = .ok (.int .i64 1) w := by kernel_rfl
def encBN (b : Bar) : Array Value := #[.agg #[.int .i64 b.1, .int .i64 b.2.1, .int .i64 b.2.2]]
theorem sheet_stops (nf : Nat) (hn : 1 ≤ nf) (S : List Nat) (B : Nat) (x0 y0 : Int) (c r : Nat) (hc : c ≤ 300) (hr : r ≤ 300) (hx : -200000 ≤ x0 ∧ x0 ≤ 200000) (hy : -200000 ≤ y0 ∧ y0 ≤ 200000) (w : World) (h1 : B ∉ S) (h2 : B + 1 ∉ S)
    (hA : Blk w B 32 #[.int .i64 x0, .int .i64 y0]) (hC : Blk w (B + 1) 3 #[.int .i64 c]) (hR : Blk w (B + 2) 3 #[.int .i64 r]) :
    SeqStopsK Fence.wide nf Tryz.prog 115 #[.pointer (some ⟨B + 2, 0, none⟩), .pointer (some ⟨B, 0, none⟩), .pointer (some ⟨B + 1, 0, none⟩)] encBN (KeepB S w.heap.size) (fun ys => ys = shN x0 y0 c r) (fun _ => True) 1000000 w := fun l J Jx W hW hJ _ hY h0 => by
  have hcW : Chg S w W := Chg.of_below hW
  have fR := (hR.below hW).facts
  refine callsIn_of_wp Tryz.func115 rfl trivial ?_ rfl
  simp only [Tryz.ntmps115, List.size_toArray, List.length_cons, List.length_nil, Nat.reduceAdd, Nat.reduceSub, Array.replicate_succ, Array.replicate_zero, List.push_toArray, List.append_toArray, List.nil_append, List.cons_append]
  gi_wp2
  gi_loopw [11] (fun i wr => ∃ n : Nat, n ≤ r ∧ i = .int .i64 n ∧ J (shN x0 y0 c n) wr ∧ Chg S w wr) (fun i _ => r - (intOf i).toNat)
  case atStart => exact ⟨0, Nat.zero_le _, rfl, h0, hcW⟩
  case round =>
    clear fR h0
    obtain ⟨n, hn1, rfl, hJn, hcn⟩ := hrel
    by_cases hlt : n < r
    · have fA := (hA.chg hcn h1).facts
      have hpar : n % 2 < 2 := Nat.mod_lt _ (by omega)
      have HD : Hid (shN x0 y0 c (n + 1) = shN x0 y0 c n ++ shI x0 c (y0 + (n : Int)) n (c + 1 - n % 2)) := rfl
      have hl1 := shN_len x0 y0 c n
      have hl2 : n * (2 * (c + 1)) ≤ 300 * 602 := Nat.mul_le_mul (by omega) (by omega)
      have hpre : (shN x0 y0 c n).length ≤ 200000 := by omega
      clear hl1 hl2
      obtain ⟨L, hL⟩ : ∃ L, shN x0 y0 c n = L := ⟨_, rfl⟩
      rw [hL] at hJn HD hpre
      clear hL
      obtain ⟨wn, rfl⟩ : ∃ x, x = wr := ⟨_, rfl⟩
      gi_wp2
      gi_loopw [6] (fun X wr => ∃ i : Nat, i ≤ c + 1 - n % 2 ∧ X = .int .i64 (x0 + ((n % 2 : Nat) : Int) + 2 * (i : Int)) ∧ J (L ++ shI x0 c (y0 + (n : Int)) n i) wr ∧ Chg S w wr) (fun X _ => (x0 + 2 * (c : Int) + 2 - intOf X).toNat)
      case atStart => exact ⟨0, Nat.zero_le _, congrArg (Value.int .i64) (by omega), by simpa [shI] using hJn, hcn⟩
      case round =>
        clear fA hJn hcn
        obtain ⟨i, hi, rfl, hJi, hci⟩ := hrel
        have HI : Hid (shI x0 c (y0 + (n : Int)) n (i + 1) = shI x0 c (y0 + (n : Int)) n i ++ shT x0 c (x0 + ((n % 2 : Nat) : Int) + 2 * (i : Int)) (y0 + (n : Int)) 2) := rfl
        have hl2 := shI_len x0 c (y0 + (n : Int)) n i
        obtain ⟨X, hX⟩ : ∃ X, x0 + ((n % 2 : Nat) : Int) + 2 * (i : Int) = X := ⟨_, rfl⟩
        rw [hX] at HI ⊢
        obtain ⟨Y, hY0⟩ : ∃ Y, y0 + (n : Int) = Y := ⟨_, rfl⟩
        rw [hY0] at HI hJi hl2
        have HX := Lib.hid (And.intro hX hY0)
        have fC := (hC.chg hci h2).facts
        have fA := (hA.chg hci h1).facts
        have hb1 : x0 ≤ X := by omega
        obtain ⟨wi, rfl⟩ : ∃ x, x = wr := ⟨_, rfl⟩
        by_cases hXl : X ≤ x0 + 2 * (c : Int)
        · obtain ⟨M, hM⟩ : ∃ M, L ++ shI x0 c Y n i = M := ⟨_, rfl⟩
          have hMl : M.length ≤ 201000 := by rw [← hM, List.length_append]; omega
          have HM := Lib.hid hM
          rw [hM] at hJi
          have hlt2 : i < c + 1 - n % 2 := by omega
          clear hM hX hl2
          gi_wp2
          gi_loopw [29] (fun s wr => ∃ t : Nat, t ≤ 2 ∧ s = .int .i64 t ∧ J (M ++ shT x0 c X Y t) wr ∧ Chg S w wr) (fun s _ => 2 - (intOf s).toNat)
          case atStart => exact ⟨0, by omega, rfl, by simpa [shT] using hJi, hci⟩
          case round =>
            clear fA fC hJi hci
            obtain ⟨t, ht, rfl, hJt, hct⟩ := hrel
            have fC := (hC.chg hct h2).facts
            have fA := (hA.chg hct h1).facts
            have hl3 := shT_len x0 c X Y t
            obtain ⟨wt, rfl⟩ : ∃ x, x = wr := ⟨_, rfl⟩
            obtain rfl | rfl | rfl : t = 0 ∨ t = 1 ∨ t = 2 := by omega
            · have hX0 := HX.out.1
              have hq2 : X + -1 ≤ x0 + 2 * (c : Int) := by omega
              by_cases hq1 : x0 ≤ X + -1
              · have hq1' : (x0 ≤ X + -1) = True := by simpa using hq1
                have HT1 : Hid (shT x0 c X Y 1 = shT x0 c X Y 0 ++ [(X, Y, -1)]) := by
                  have h0 : sdB x0 c (X, Y, -1) = [(X, Y, -1)] := by unfold sdB; rw [if_pos ⟨hq1, hq2⟩]
                  exact congrArg (shT x0 c X Y 0 ++ ·) h0
                have hJ1 := abides_below hJ hJt (bl_alloc bl_refl (.cells #[.int .i64 X, .int .i64 Y, .int .i64 (-1)] 46))
                obtain ⟨fn, tmps, assign, body, hy, hR2⟩ := hY _ (X, Y, -1) _ hJ1 (by rw [List.length_append]; omega)
                have hy' : (Instr.yield l #[.agg #[.int .i64 X, .int .i64 Y, .int .i64 (-1)]]).run Tryz.prog (wt.alloc (.cells #[.int .i64 X, .int .i64 Y, .int .i64 (-1)] 46)) = .ok (.round l fn tmps assign body) (wt.alloc (.cells #[.int .i64 X, .int .i64 Y, .int .i64 (-1)] 46)) := hy
                clear hy hJt
                gi_wp2
                refine hR2.mono ?_
                rintro e W3 (⟨rfl, hJ3, hk3⟩ | ⟨rfl, hJx3⟩)
                · gi_wp2
                  go_roundw
                  case rel => exact ⟨1, by omega, rfl, by rw [HT1.out, ← List.append_assoc]; exact hJ3, (hct.alloc _).keep hk3⟩
                  case measure => simp [intOf]
                · gi_wp2
                  refine bodyPost_ret (results_none rfl _ _ _) rfl ?_
                  exact ⟨⟨_, rfl⟩, .inr ⟨_, trivial, hJx3⟩⟩
              · have hq1' : (x0 ≤ X + -1) = False := by simpa using hq1
                have HT1 : Hid (shT x0 c X Y 1 = shT x0 c X Y 0) := by
                  have h0 : sdB x0 c (X, Y, -1) = [] := by unfold sdB; rw [if_neg (fun hh => by have := hh.1; have := hh.2; simp only at *; omega)]
                  exact (congrArg (shT x0 c X Y 0 ++ ·) h0).trans (List.append_nil _)
                have hJ1 := abides_below hJ hJt (bl_alloc bl_refl (.cells #[.int .i64 X, .int .i64 Y, .int .i64 (-1)] 46))
                clear hJt
                gi_wp2_with (refine wpListIn_pass (by rfl) (fun _ => trivial) ?_)
                go_roundw
                case rel => exact ⟨1, by omega, rfl, by rw [HT1.out]; exact hJ1, hct.alloc _⟩
                case measure => simp [intOf]
            · have hq1 : x0 ≤ X + 1 := by omega
              by_cases hq2 : X + 1 ≤ x0 + 2 * (c : Int)
              · have hq2' : (X + 1 ≤ x0 + 2 * (c : Int)) = True := by simpa using hq2
                have HT1 : Hid (shT x0 c X Y 2 = shT x0 c X Y 1 ++ [(X, Y, 1)]) := by
                  have h0 : sdB x0 c (X, Y, 1) = [(X, Y, 1)] := by unfold sdB; rw [if_pos ⟨hq1, hq2⟩]
                  exact congrArg (shT x0 c X Y 1 ++ ·) h0
                have hJ1 := abides_below hJ hJt (bl_alloc bl_refl (.cells #[.int .i64 X, .int .i64 Y, .int .i64 1] 46))
                obtain ⟨fn, tmps, assign, body, hy, hR2⟩ := hY _ (X, Y, 1) _ hJ1 (by rw [List.length_append]; omega)
                have hy' : (Instr.yield l #[.agg #[.int .i64 X, .int .i64 Y, .int .i64 1]]).run Tryz.prog (wt.alloc (.cells #[.int .i64 X, .int .i64 Y, .int .i64 1] 46)) = .ok (.round l fn tmps assign body) (wt.alloc (.cells #[.int .i64 X, .int .i64 Y, .int .i64 1] 46)) := hy
                clear hy hJt
                gi_wp2
                refine hR2.mono ?_
                rintro e W3 (⟨rfl, hJ3, hk3⟩ | ⟨rfl, hJx3⟩)
                · gi_wp2
                  go_roundw
                  case rel => exact ⟨2, by omega, rfl, by rw [HT1.out, ← List.append_assoc]; exact hJ3, (hct.alloc _).keep hk3⟩
                  case measure => simp [intOf]
                · gi_wp2
                  refine bodyPost_ret (results_none rfl _ _ _) rfl ?_
                  exact ⟨⟨_, rfl⟩, .inr ⟨_, trivial, hJx3⟩⟩
              · have hq2' : (X + 1 ≤ x0 + 2 * (c : Int)) = False := by simpa using hq2
                have HT1 : Hid (shT x0 c X Y 2 = shT x0 c X Y 1) := by
                  have h0 : sdB x0 c (X, Y, 1) = [] := by unfold sdB; rw [if_neg (fun hh => by have := hh.1; have := hh.2; simp only at *; omega)]
                  exact (congrArg (shT x0 c X Y 1 ++ ·) h0).trans (List.append_nil _)
                have hJ1 := abides_below hJ hJt (bl_alloc bl_refl (.cells #[.int .i64 X, .int .i64 Y, .int .i64 1] 46))
                clear hJt
                gi_wp2_with (refine wpListIn_pass (by rfl) (fun _ => trivial) ?_)
                go_roundw
                case rel => exact ⟨2, by omega, rfl, by rw [HT1.out]; exact hJ1, hct.alloc _⟩
                case measure => simp [intOf]
            · gi_wp2
              go_roundw
              case rel => exact ⟨i + 1, by omega, congrArg (Value.int .i64) (by have := HX.out.1; omega), by rw [HX.out.2, HI.out, ← List.append_assoc, HM.out]; exact hJt, hct⟩
              case measure => simp [intOf]; omega
        · obtain rfl : i = c + 1 - n % 2 := by omega
          clear hX hY0
          gi_wp2
          go_roundw
          case rel => exact ⟨n + 1, by omega, by go_num, by rw [HD.out, HX.out.2]; exact hJi, hci⟩
          case measure => simp [intOf]; omega
    · obtain rfl : n = r := by omega
      gi_wp2
      go_end0
      exact ⟨⟨_, rfl⟩, .inl ⟨_, rfl, hJn⟩⟩
end Go.Proofs.YtpompeancmonbaaGreat

/- The even join of two meshes and two, walked. Conditions: none. -/
import Derived.Test.YtpompeancmonbaaGreatD07
import Derived.Test.YtpompeancmonbaaGreatD15
import Derived.Test.YtpompeancmonbaaGreatD21
import Derived.Test.YtpompeancmonbaaGreatD20
import Derived.Test.YtpompeancmonbaaGreatD22
import Derived.Test.YtpompeancmonbaaGreatD24
import Derived.Test.YtpompeancmonbaaGreatD12
import Derived.Test.YtpompeancmonbaaGreatD30
import Derived.Test.YtpompeancmonbaaGreatD31
import Derived.Test.YtpompeancmonbaaGreatD23
namespace Go.Proofs.YtpompeancmonbaaGreat
open Go.RowKit Go.ChangeMaps
set_option maxHeartbeats 4000000
set_option maxRecDepth 100000

attribute [local go_sem] Oper.semAt_some
theorem swhen_any (b : Bool) (n : Int) (w : World) : Calls Tryz.prog 136 #[.bool b, .int .i64 n] w (RV w (.int .i64 (whenI b n))) := by
  cases b
  all_goals
    go_enter Tryz.func136, Tryz.ntmps136
    go_wp2
    go_ret
    exact ⟨rfl, bl_refl⟩
theorem swithin_any (n lo hi : Int) (w : World) : Calls Tryz.prog 118 #[.int .i64 n, .int .i64 lo, .int .i64 hi] w (RV w (.int .i64 (withinI n lo hi))) := by
  go_enter Tryz.func118, Tryz.ntmps118
  go_wp2_with (go_at_call 136; refine (swhen_any _ _ _).mono ?_; rintro e w1 ⟨rfl, hb1⟩)
  all_goals go_ret
  · exact ⟨rfl, hb1⟩
  · exact ⟨ret_int (by simp [withinI, *]), hb1⟩
theorem sfirst_any (l : List Int) (A : Option Addr) (c : Nat) (w : World) (hl : l.length ≤ maxLen) (h : Rd ic 1 w A l) :
    Calls Tryz.prog 117 #[.slice A l.length c] w (RV w (.int .i64 (firstI l))) := by
  unfold maxLen at hl
  go_enter Tryz.func117, Tryz.ntmps117
  go_wp2
  go_loop [7] (fun i => ∃ k : Nat, k ≤ l.length ∧ i = .int .i64 k ∧ Hid (firstI l = firstI (l.drop k))) (fun i => l.length - (intOf i).toNat)
  case atStart => exact ⟨0, Nat.zero_le _, rfl, rfl⟩
  case round =>
    obtain ⟨k, hk, rfl, H⟩ := hrel
    by_cases hlt : k < l.length
    · obtain ⟨b, off, rfl, hb, hc⟩ := h.int hlt
      have hd := Lib.hid (firstI_drop hlt)
      go_wp2
      · have hne : (l[k] != 0) = true := by assumption
        go_ret
        refine ⟨ret_int ?_, bl_refl⟩
        rw [H.out, hd.out, if_neg (by simpa using hne)]
      · have hne : (l[k] != 0) = false := by assumption
        go_round
        case rel => exact ⟨k + 1, by omega, by go_num, by rw [H.out, hd.out, if_pos (by simpa using hne)]; rfl⟩
        case measure => simp [intOf]; omega
    · have hkl : k = l.length := by omega
      go_wp2
      go_ret
      refine ⟨ret_int ?_, bl_refl⟩
      rw [H.out, hkl, List.drop_length]; rfl

/-! ## the even join of two meshes and two -/
theorem checkMeshes_two (w : World) : Calls Tryz.prog 78 #[.int .i64 2, .int .i64 2] w (RV w (.int .i64 0)) := by
  have q1 := fun W => swithin_any 2 1 256 W
  rw [show withinI 2 1 256 = 0 from rfl] at q1
  have hF : ∀ A c W, Rd ic 1 W A [0, 0] → Calls Tryz.prog 117 #[.slice A 2 c] W (RV W (.int .i64 0)) := fun A c W hr => sfirst_any [0, 0] A c W (by simp [maxLen]) hr
  go_enter Tryz.func78, Tryz.ntmps78
  go_wp2_with fail
  refine (q1 _).mono ?_
  rintro e w1 ⟨rfl, hb1⟩
  go_wp2_with fail
  refine (q1 _).mono ?_
  rintro e w2 ⟨rfl, hb2⟩
  go_wp2_with (go_at_call 117; go_must (refine (hF _ _ _ (Rd.ints2 (by simp) (by go_simp) (by go_simp))).mono ?_); rintro e w3 ⟨rfl, hb3⟩)
  go_ret
  exact ⟨rfl, by (repeat (first | exact bl_refl | assumption | (apply bl_then; assumption) | refine bl_alloc ?_ _ | refine bl_drew ?_ | refine bl_drewN ?_ _))⟩
theorem seamEven_any (w : World) : Calls Tryz.prog 80 #[.int .i64 2, .int .i64 2] w fun e w' =>
    e = .returned (.func (.func 120) #[] #[.pointer (some ⟨w.heap.size, 0, none⟩), .pointer (some ⟨w.heap.size + 1, 0, none⟩)]) ∧
    w' = (w.alloc (.cells #[.int .i64 2] 3)).alloc (.cells #[.int .i64 2] 3) := by
  go_enter Tryz.func80, Tryz.ntmps80
  go_wp2
  go_ret
  exact ⟨rfl, rfl⟩
def encP (b : Knot) : Array Value := #[.agg #[.int .i64 b.1, .int .i64 b.2]]
def evT : Nat → List Knot
  | 0 => []
  | 1 => [(0, 0)]
  | _ => [(0, 0), (1, 1)]
theorem even_stops (nf : Nat) (hn : 1 ≤ nf) (S : List Nat) (B : Nat) (w : World) (h1 : B ∉ S) (h2 : B + 1 ∉ S) (hA : Blk w B 3 #[.int .i64 2]) (hC : Blk w (B + 1) 3 #[.int .i64 2]) :
    SeqStopsK Fence.wide nf Tryz.prog 120 #[.pointer (some ⟨B, 0, none⟩), .pointer (some ⟨B + 1, 0, none⟩)] encP (KeepB S w.heap.size) (fun ys => ys = evT 2) (fun _ => True) 1000000 w := fun l J Jx W hW hJ _ hY h0 => by
  have hcW : Chg S w W := Chg.of_below hW
  have fA := (hA.below hW).facts
  have fC := (hC.below hW).facts
  refine callsIn_of_wp Tryz.func120 rfl trivial ?_ rfl
  simp only [Tryz.ntmps120, List.size_toArray, List.length_cons, List.length_nil, Nat.reduceAdd, Nat.reduceSub, Array.replicate_succ, Array.replicate_zero, List.push_toArray, List.append_toArray, List.nil_append, List.cons_append]
  gi_wp2
  gi_loopw [10] (fun i wr => ∃ t : Nat, t ≤ 2 ∧ i = .int .i64 t ∧ J (evT t) wr ∧ Chg S w wr) (fun i _ => 2 - (intOf i).toNat)
  case atStart => exact ⟨0, by omega, rfl, h0, hcW⟩
  case round =>
    clear fA fC h0
    obtain ⟨t, ht, rfl, hJt, hct⟩ := hrel
    have fA := (hA.chg hct h1).facts
    have fC := (hC.chg hct h2).facts
    obtain ⟨wt, rfl⟩ : ∃ x, x = wr := ⟨_, rfl⟩
    obtain rfl | rfl | rfl : t = 0 ∨ t = 1 ∨ t = 2 := by omega
    · have hJ1 := abides_below hJ hJt (bl_drew bl_refl)
      obtain ⟨fn, tmps, assign, body, hy, hR2⟩ := hY _ (0, 0) _ hJ1 (by simp [evT])
      have hy' : (Instr.yield l #[.agg #[.int .i64 0, .int .i64 0]]).run Tryz.prog wt.drew = .ok (.round l fn tmps assign body) wt.drew := hy
      clear hy hJt
      gi_wp2
      refine wpIn_region_ords [0, 1, 2, 3, 4, 5, 6, 7, 8, 9, 10, 11] [] [12, 13] (fun _ => trivial) (by kernel_rfl) (by kernel_rfl) (by kernel_rfl) (fun d _ _ _ _ h => by cases d <;> exact h) ?_
      simp only [List.map_cons, List.map_nil, List.getD_cons_zero, List.getD_cons_succ]
      repeat (go_big_quiet_step (fail))
      refine wpQuiet_nil ?_
      refine wpMidI_nil ?_
      gi_wp2
      refine hR2.mono ?_
      rintro e W3 (⟨rfl, hJ3, hk3⟩ | ⟨rfl, hJx3⟩)
      · gi_wp2
        go_roundw
        case rel => exact ⟨1, by omega, rfl, hJ3, hct.drew.keep hk3⟩
        case measure => simp [intOf]
      · gi_wp2
        refine bodyPost_ret (results_none rfl _ _ _) rfl ?_
        exact ⟨⟨_, rfl⟩, .inr ⟨_, trivial, hJx3⟩⟩
    · have hJ1 := abides_below hJ hJt (bl_drew bl_refl)
      obtain ⟨fn, tmps, assign, body, hy, hR2⟩ := hY _ (1, 1) _ hJ1 (by simp [evT])
      have hy' : (Instr.yield l #[.agg #[.int .i64 1, .int .i64 1]]).run Tryz.prog wt.drew = .ok (.round l fn tmps assign body) wt.drew := hy
      clear hy hJt
      gi_wp2
      refine wpIn_region_ords [0, 1, 2, 3, 4, 5, 6, 7, 8, 9, 10, 11] [] [12, 13] (fun _ => trivial) (by kernel_rfl) (by kernel_rfl) (by kernel_rfl) (fun d _ _ _ _ h => by cases d <;> exact h) ?_
      simp only [List.map_cons, List.map_nil, List.getD_cons_zero, List.getD_cons_succ]
      repeat (go_big_quiet_step (fail))
      refine wpQuiet_nil ?_
      refine wpMidI_nil ?_
      gi_wp2
      refine hR2.mono ?_
      rintro e W3 (⟨rfl, hJ3, hk3⟩ | ⟨rfl, hJx3⟩)
      · gi_wp2
        go_roundw
        case rel => exact ⟨2, by omega, rfl, hJ3, hct.drew.keep hk3⟩
        case measure => simp [intOf]
      · gi_wp2
        refine bodyPost_ret (results_none rfl _ _ _) rfl ?_
        exact ⟨⟨_, rfl⟩, .inr ⟨_, trivial, hJx3⟩⟩
    · gi_wp2
      go_end0
      exact ⟨⟨_, rfl⟩, .inl ⟨_, rfl, hJt⟩⟩
theorem pair_elem : Elem Tryz.prog 77 135 2 16 := ⟨by kernel_rfl, by kernel_rfl, by decide⟩
abbrev OwP (base : Nat) := Own kc 2 base 135
theorem wpListIn_appP1 {F : Fence} {n : Nat} {ops : Array Oper} {rest : List Oper} {o : Oper} {a : Act} {Q : Exit → Act → World → Prop} {base : Nat} {W : World} {v : Value} {X Y : Int} {l : List Knot} (hown : OwP base W v l) {g : Nat} (hgd : o.guard = none) (s x : Operand)
    (ho : o.op = .call { callee := .builtin .append, args := #[s, x], argTypes := #[77, 77] })
    (hs : a.eval s = v) (hx : a.eval x = .slice (some ⟨g, 0, none⟩) 1 1) (hg : W.heap.size = g) (hlen : l.length ≤ 1000000) (hbase : base ≤ W.heap.size)
    (h : ∀ v' w', OwP base w' v' (l ++ [(X, Y)]) → (W.alloc (.cells #[.int .i64 X, .int .i64 Y] 135)).grownBy w' v.ownBlock → wpListIn F n Tryz.prog ops Q rest (a.put o.dst v') w') :
    wpListIn F n Tryz.prog ops Q (o :: rest) a (W.alloc (.cells #[.int .i64 X, .int .i64 Y] 135)) := by
  subst hg
  exact wpListIn_app hgd pair_elem kc_len kc_one s x ho base v _ l [(X, Y)] hs hx (hown.alloc _) (Sl.one_pair W X Y _) (by simp [maxLen]; omega) (by simp; omega) (by simp; omega) h
def RPP (w : World) (l : List Knot) (e : Ending) (w' : World) : Prop := ∃ v, e = .returned v ∧ OwP w.heap.size w' v l ∧ Below w.heap.size w w'
theorem appendSeqP_any (B : Nat) (w : World)
    (hA : Blk w B 3 #[.int .i64 2]) (hC : Blk w (B + 1) 3 #[.int .i64 2]) :
    Calls Tryz.prog 119 #[.slice none 0 0, .func (.func 120) #[] #[.pointer (some ⟨B, 0, none⟩), .pointer (some ⟨B + 1, 0, none⟩)]] w (RPP w (evT 2)) := by
  refine (callsIn_wide (n := 6)).1 ?_
  refine callsIn_of_wp_marks Tryz.func119 rfl trivial ?_ rfl
  simp only [Tryz.ntmps119, List.size_toArray, List.length_cons, List.length_nil, Nat.reduceAdd, Nat.reduceSub, Array.replicate_succ, Array.replicate_zero, List.push_toArray, List.append_toArray, List.nil_append, List.cons_append]
  gi_wp2
  have hBx := Blk.new w 77 #[.slice none 0 0]
  have hb1 : Below w.heap.size w (w.alloc (.cells #[.slice none 0 0] 77)) := bl_alloc bl_refl _
  have hsz : (w.alloc (.cells #[.slice none 0 0] 77)).heap.size = w.heap.size + 1 := by simp
  obtain ⟨w1, hw1⟩ : ∃ X, w.alloc (.cells #[.slice none 0 0] 77) = X := ⟨_, rfl⟩
  rw [hw1] at hBx hb1 hsz ⊢
  have hAl := hA.lt
  have hCl := hC.lt
  refine wpIn_rangeFunc_ownH rfl (by omega) (gf := 120) (lb := #[.pointer (some ⟨B, 0, none⟩), .pointer (some ⟨B + 1, 0, none⟩)]) rfl trivial (enters_of Tryz.func120 (by kernel_rfl) rfl)
    (even_stops 5 (by omega) [w.heap.size] B w1 (by simp; omega) (by simp; omega) (hA.below hb1) (hC.below hb1)) keepB_t (keepB_b (Nat.le_refl _)) (Below.refl _ _) (fun _ => rfl)
    (fun pre W => (∃ u, Blk W w.heap.size 77 #[u] ∧ OwP w1.heap.size W u pre) ∧ Below w.heap.size w W ∧ w1.heap.size ≤ W.heap.size)
    (fun _ _ _ => False)
    (fun _ W W' row hs hg hr => by
      obtain ⟨⟨u, h1, h2⟩, h3, h4⟩ := hs
      exact ⟨⟨u, h1.grown hg (nc_blk h1 hr), h2.kept hg (nc_own h2 hr)⟩, bl_grown hg h3 (fun k e => by have := (hr k e).1; omega), Nat.le_trans h4 hg.size⟩)
    (fun _ _ _ _ _ hs _ _ => hs)
    ⟨⟨_, hBx, Own.nil_⟩, hb1, Nat.le_refl _⟩
    (fun x a' W => ∃ Bk, Blk W Bk 135 #[.int .i64 x.1, .int .i64 x.2] ∧ w1.heap.size ≤ Bk ∧ a' = { tmps := #[.slice none 0 0, .func (.func 120) #[] #[.pointer (some ⟨B, 0, none⟩), .pointer (some ⟨B + 1, 0, none⟩)], .pointer (some ⟨w.heap.size, 0, none⟩), undef, .slice none 0 0, .pointer (some ⟨Bk, 0, none⟩), .func (.func 120) #[] #[.pointer (some ⟨B, 0, none⟩), .pointer (some ⟨B + 1, 0, none⟩)], .agg #[.int .i64 x.1, .int .i64 x.2], undef, undef, undef, undef, undef], defers := [] })
    (fun x a' s W W' row hs hg hr => by
      obtain ⟨Bk, hX, hk, rfl⟩ := hs
      exact ⟨Bk, hX.grown hg (nc_blk hX hr), hk, rfl⟩) ?assign ?body ?done ?stop
  case assign =>
    rintro l pre x W K ⟨⟨u, hu1, hu2⟩, hbw, hs2⟩ hK
    unfold encP
    gi_wp2
    have hb2 : Below W.heap.size W (W.alloc (.cells #[.int .i64 x.1, .int .i64 x.2] 135)) := bl_alloc bl_refl _
    exact hK _ _ (keeps_of_below hb2) (KeepB.of_below hb2 hs2) ⟨⟨u, hu1.below hb2, hu2.below hb2⟩, bl_then hb2 hbw, Nat.le_trans hs2 hb2.size⟩ ⟨W.heap.size, Blk.new W _ _, hs2, rfl⟩
  case body =>
    rintro l pre x a' W _ _ ⟨⟨u, hu1, hu2⟩, hbw, hs2⟩ ⟨Bk, hX, hk, rfl⟩ hlt
    have fk := hX.facts
    have fo := hu1.facts
    gi_wp2_with (gi_at_builtin; refine wpListIn_appP1 hu2 rfl _ _ rfl rfl rfl rfl (by omega) hs2 ?_; intro v3 w3 hu3 hgr3; obtain ⟨A3, c3, rfl⟩ := hu3.shape; have hu13 := (hu1.alloc (.cells #[.int .i64 x.1, .int .i64 x.2] 135)).grown hgr3 (hu2.ne_blk hu1 (by decide)); have fo3 := hu13.facts)
    simp only [List.length_append, List.length_cons, List.length_nil, Nat.zero_add] at hu3
    have hal : Below W.heap.size W (W.alloc (.cells #[.int .i64 x.1, .int .i64 x.2] 135)) := bl_alloc bl_refl _
    have hsz2 : w1.heap.size ≤ (W.alloc (.cells #[.int .i64 x.1, .int .i64 x.2] 135)).heap.size := Nat.le_trans hs2 hal.size
    have hbw3 : Below w.heap.size w w3 := bl_grown hgr3 (bl_then hal hbw) (fun k e => by have := (hu2.lt k e).1; omega)
    exact ⟨(keeps_of_below hal).trans ((keeps_grown (hu2.alloc _) hgr3).trans (keeps_set hu13 0 _)),
      (KeepB.of_below hal hs2).trans ((KeepB.of_grown hgr3 hsz2 (fun k e => (hu2.lt k e).1)).trans (KeepB.of_set (by simp))),
      ⟨_, hu13.set_ 0 _, hu3.set (Ne.symm (hu3.ne_blk hu13 (by decide))) _⟩, bl_set hbw3 (by simp) _, Nat.le_trans hsz2 (Nat.le_trans hgr3.size (by simp [World.setCell]))⟩
  case done =>
    rintro D' ys W hD rfl ⟨⟨u, hu1, hu2⟩, hbw, hs2⟩ hK
    have fo := hu1.facts
    gi_wp2
    refine ⟨by simp, .inl ⟨_, _, rfl, run_takeDeferred hK, ?_⟩⟩
    exact ⟨_, results_tmp rfl _ _ _, u, rfl, Own.base_mono (ownsRow_putObj hu2 _ hK rfl) (by omega), hbw.trans (belowK_b (w := w) (Nat.le_refl _) W D' _ _ (by omega) hK rfl rfl)⟩
  case stop =>
    rintro D' c pre W _ _ h _
    exact h.elim
theorem collectP_any (B : Nat) (w : World)
    (hA : Blk w B 3 #[.int .i64 2]) (hC : Blk w (B + 1) 3 #[.int .i64 2]) :
    Calls Tryz.prog 79 #[.func (.func 120) #[] #[.pointer (some ⟨B, 0, none⟩), .pointer (some ⟨B + 1, 0, none⟩)]] w (RPP w (evT 2)) := by
  go_enter Tryz.func79, Tryz.ntmps79
  go_wp2_with (go_at_call 119; refine (appendSeqP_any B _ hA hC).mono ?_; rintro e w1 ⟨v, rfl, hO, hb⟩)
  go_ret
  exact ⟨v, rfl, hO, hb⟩
theorem joins_two (w : World) : Calls Tryz.prog 32 #[.int .i64 2, .int .i64 2] w (fun e w' => ∃ A c, e = .returned (.tuple #[.slice A 2 c, .int .i64 0]) ∧ Below w.heap.size w w') := by
  go_enter Tryz.func32, Tryz.ntmps32
  go_wp2_with fail
  refine (checkMeshes_two _).mono ?_
  rintro e w1 ⟨rfl, hb1⟩
  go_wp2_with fail
  refine (seamEven_any _).mono ?_
  rintro e w2 ⟨rfl, hw2⟩
  have hA := (Blk.new w1 3 #[.int .i64 2]).alloc (.cells #[.int .i64 2] 3)
  have hC := Blk.new1 w1 (.cells #[.int .i64 2] 3) 3 #[.int .i64 2]
  rw [← hw2] at hA hC
  have hb2 : Below w1.heap.size w1 w2 := by rw [hw2]; exact bl_alloc (bl_alloc bl_refl _) _
  clear hw2
  go_wp2_with fail
  refine (collectP_any w1.heap.size _ hA hC).mono ?_
  rintro e w3 ⟨v, rfl, hO, hb3⟩
  obtain ⟨A, c, rfl⟩ := hO.shape
  go_wp2
  go_ret2
  exact ⟨A, c, rfl, by (repeat (first | exact bl_refl | assumption | (apply bl_then; assumption) | refine bl_alloc ?_ _ | refine bl_drew ?_ | refine bl_drewN ?_ _))⟩
end Go.Proofs.YtpompeancmonbaaGreat

/- What the statement MendParity reckons of the kinds of a hole's knots: plain. Conditions: bars within bounds, each once. -/
namespace Go.Proofs.YtpompeancmonbaaGreat

theorem leg_cases : ∀ a b c d, (a, b, c, d) ≠ noLegs → (cnt (a, b, c, d) = 1 ∧ kix (a, b, c, d) = 0) ∨ (cnt (a, b, c, d) = 2 ∧ (kix (a, b, c, d) = 3 ∨ kix (a, b, c, d) = 4 ∨ kix (a, b, c, d) = 5)) ∨ (cnt (a, b, c, d) = 3 ∧ kix (a, b, c, d) = 1) ∨ (cnt (a, b, c, d) = 4 ∧ kix (a, b, c, d) = 2) := by decide
theorem leg_cases' {l : Legs} (h : l ≠ noLegs) : (cnt l = 1 ∧ kix l = 0) ∨ (cnt l = 2 ∧ (kix l = 3 ∨ kix l = 4 ∨ kix l = 5)) ∨ (cnt l = 3 ∧ kix l = 1) ∨ (cnt l = 4 ∧ kix l = 2) := by
  obtain ⟨a, b, c, d⟩ := l
  exact leg_cases a b c d h
/-- how many of the first k are odd, and their sum -/
def ocL (l : List LegT) (k : Nat) : Nat := ((l.take k).filter fun x => x.2.1 % 2 == 1).length
def scL (l : List LegT) (k : Nat) : Nat := ((l.take k).map (·.2.1)).sum
theorem ocL_succ {l : List LegT} {k : Nat} (hk : k < l.length) : ocL l (k + 1) = ocL l k + if l[k].2.1 % 2 = 1 then 1 else 0 := by
  unfold ocL
  rw [List.take_succ_eq_append_getElem hk, List.filter_append, List.length_append]
  by_cases h : l[k].2.1 % 2 = 1 <;> simp [h]
theorem scL_succ {l : List LegT} {k : Nat} (hk : k < l.length) : scL l (k + 1) = scL l k + l[k].2.1 := by
  unfold scL
  rw [List.take_succ_eq_append_getElem hk, List.map_append, List.sum_append]
  simp
theorem filter_at {α : Type} (p : α → Bool) {l : List α} {k : Nat} (hk : k < l.length) (hp : p l[k] = true) : (l.filter p)[((l.take k).filter p).length]? = some l[k] := by
  have e : l = l.take k ++ l[k] :: l.drop (k + 1) := by rw [← List.drop_eq_getElem_cons hk, List.take_append_drop]
  conv => lhs; rw [e]
  rw [List.filter_append, List.filter_cons, if_pos hp]
  have h1 : ((l.take k).filter p).length = ((List.take k (l.take k ++ l[k] :: l.drop (k + 1))).filter p).length := by rw [← e]
  rw [← h1, List.getElem?_append_right (Nat.le_refl _), Nat.sub_self]
  rfl
structure ParL (l : List LegT) (O : List Knot) (n : Nat) : Prop where
  kind : ∀ k (h : k < l.length), (l[k].2.1 = 1 ∧ l[k].2.2 = 0) ∨ (l[k].2.1 = 2 ∧ (l[k].2.2 = 3 ∨ l[k].2.2 = 4 ∨ l[k].2.2 = 5)) ∨ (l[k].2.1 = 3 ∧ l[k].2.2 = 1) ∨ (l[k].2.1 = 4 ∧ l[k].2.2 = 2)
  asc : ∀ k (h : k + 1 < l.length), kltP l[k].1 l[k + 1].1
  odd : ∀ k (h : k < l.length), l[k].2.1 % 2 = 1 → O[ocL l k]? = some l[k].1
  odds : ocL l l.length = O.length
  sum : scL l l.length = 2 * n
theorem ParL.sc_le {l : List LegT} {O : List Knot} {n : Nat} (h : ParL l O n) : ∀ k, k ≤ l.length → scL l k ≤ 4 * k
  | 0, _ => by simp [scL]
  | k + 1, hk => by
    have ih := ParL.sc_le h k (by omega)
    rw [scL_succ (show k < l.length by omega)]
    have := h.kind k (by omega)
    omega
theorem ocL_le (l : List LegT) (k : Nat) : ocL l k ≤ k := by
  unfold ocL
  have h1 := List.length_filter_le (fun x : LegT => x.2.1 % 2 == 1) (l.take k)
  have h2 := List.length_take_le k l
  omega
theorem filter_map_len {α β : Type} (f : α → β) (p : β → Bool) : ∀ l : List α, ((l.map f).filter p).length = (l.filter fun a => p (f a)).length
  | [] => rfl
  | a :: l => by
    have := filter_map_len f p l
    rw [List.map_cons, List.filter_cons, List.filter_cons]
    split <;> simp [this]
theorem par_ok {D : List Bar} (hn : D.Nodup) (hs : ∀ b ∈ D, Sided b) : ParL ((holeK D).map (legOf D)) (oddK D) D.length := by
  have ho : oddK D = (holeK D).filter fun k => cnt (legsAt D k) % 2 == 1 := rfl
  refine ⟨fun k h => ?_, fun k h => ?_, fun k h hc => ?_, ?_, ?_⟩
  · rw [List.length_map] at h
    rw [List.getElem_map]
    exact leg_cases' ((holeK_mem hs _).1 (List.getElem_mem h))
  · rw [List.length_map] at h
    rw [List.getElem_map, List.getElem_map]
    exact List.pairwise_iff_getElem.1 (holeK_sorted D) k (k + 1) (by omega) h (by omega)
  · rw [List.length_map] at h
    rw [List.getElem_map] at hc ⊢
    have hc' : cnt (legsAt D (holeK D)[k]) % 2 = 1 := hc
    have := filter_at (fun k => cnt (legsAt D k) % 2 == 1) h (by simpa using hc')
    rw [ho]
    unfold ocL
    rw [← List.map_take, filter_map_len]
    exact this
  · unfold ocL
    rw [List.take_length, filter_map_len, ho]
    rfl
  · unfold scL
    rw [List.take_length, List.map_map]
    exact hole_sum hn hs
end Go.Proofs.YtpompeancmonbaaGreat

/- What the statements MendBackwards and MendRestores reckon of walks and runs: plain. Conditions: a torn net that is valid. -/
namespace Go.Proofs.YtpompeancmonbaaGreat

section
variable {N D : List Bar} {k : Knot} {L : Nat}
theorem knot_zero (hD : netE D = 0) (h : legsAt D k ≠ noLegs) : knotE k.1 k.2 = 0 := by
  obtain ⟨a, ha, hm⟩ := legs_arm.1 h
  obtain ⟨q1, q2⟩ := barE_ends (netE_all hD _ hm)
  rcases (dart_low (d := (k, a)) ha).1 with e | e
  · have e' : k = lowK (armB k a) := e
    rw [e']; exact q1
  · have e' : k = uppK (armB k a) := e
    rw [e']; exact q2
theorem two_zero (hE : tornE N D = 0) (h : legsAt D k ≠ noLegs) : twoE N D k = 0 := by
  unfold twoE
  rw [hE, knot_zero (torn_nets hE).2 h]; rfl
theorem cnt_ne {n : Nat} (h : cnt (legsAt D k) = n + 1) : legsAt D k ≠ noLegs := fun e => by rw [e] at h; cases h
theorem miss_eq (hE : tornE N D = 0) (h : legsAt D k ≠ noLegs) : missR N D k = (cnt (legsAt D k) : Int) := by
  unfold missR
  rw [if_pos (two_zero hE h)]; rfl
theorem walkE_eq (hE : tornE N D = 0) (h : legsAt D k ≠ noLegs) : walkE N D k = if cnt (legsAt D k) = 1 then 0 else 18 := by
  unfold walkE whenI missN
  rw [if_pos (two_zero hE h)]
  by_cases h1 : cnt (legsAt D k) = 1 <;> simp [h1]
theorem walkR_eq (hE : tornE N D = 0) (h : legsAt D k ≠ noLegs) : walkR N D k = if cnt (legsAt D k) = 1 then walkL D k else [] := by
  unfold walkR
  rw [walkE_eq hE h]
  by_cases h1 : cnt (legsAt D k) = 1 <;> simp [h1]
theorem path_made (hN : netE D = 0) {d : Dart} (hL : 0 < L) (hle : L ≤ D.length) (hok : ∀ t, t < L → (dart D d t).2 < 4 ∧ barD (dart D d t) ∈ D) (hnd : (pathB D d L).Nodup) :
    cwE (pathK D d (L + 1)) = 0 ∧ madeE (pathK D d (L + 1)) = 0 ∧ (∀ x, x ∈ madeL (pathK D d (L + 1)) ↔ x ∈ pathB D d L) ∧ (madeL (pathK D d (L + 1))).Pairwise bltP := by
  have hcw := path_cw hN hL hle hok
  have hp : passP (pathK D d (L + 1)) = pathB D d L := pass_path _ _ fun t ht => (hok t ht).1
  have hm : mkB [] (passP (pathK D d (L + 1))) = some (srtB (pathB D d L)) := by rw [hp, mkB_eq, if_pos hnd]
  have hl : madeL (pathK D d (L + 1)) = srtB (pathB D d L) := by rw [madeL_eq _ hcw, hm]; rfl
  refine ⟨hcw, by rw [madeE_eq, if_pos hcw, hm]; rfl, fun x => by rw [hl, srtB_mem], by rw [hl]; exact srtB_sorted hnd⟩
/-- a walk from a knot with one missing bar -/
structure BackAt (N D : List Bar) (k z : Knot) (W : List Knot) : Prop where
  lo : 2 ≤ W.length
  hi : W.length ≤ D.length + 1
  fst : W[0]? = some k
  lst : W[W.length - 1]? = some z
  cw : cwE W = 0
  made : madeE W = 0
  unk : unk (madeL W) D = false
  two : twoE N D z = 0
  cnt : cnt (legsAt D z) = 1 ∨ cnt (legsAt D z) = 3
  back : Go.Proofs.YtpompeancmonbaaGreat.cnt (legsAt D z) = 1 → walkL D z = W.reverse
theorem odd_one_three : ∀ a b c d, oddL (a, b, c, d) = true → cnt (a, b, c, d) = 1 ∨ cnt (a, b, c, d) = 3 := by decide
theorem pathK_get {d : Dart} {n t : Nat} (h : t < n) : (pathK D d n)[t]? = some (dart D d t).1 := by
  unfold pathK
  rw [List.getElem?_map, List.getElem?_range h]; rfl
theorem back_at (hE : tornE N D = 0) (h1 : cnt (legsAt D k) = 1) : ∃ z, BackAt N D k z (walkL D k) := by
  have hD := (torn_nets hE).2
  have ho := one_odd h1
  obtain ⟨ha, hb⟩ := arm0_ok (odd_ne ho)
  obtain ⟨L, hL, hle, hw⟩ := walkL_eq ho
  have hok := fun t (ht : t < L) => dart_ok (n := L - 1) ha hb (fun t h1 h2 => hL.even t h1 (by omega)) t (by omega)
  obtain ⟨q1, q2, q3, _⟩ := path_made hD hL.pos hle hok (pathB_nodup ha hb ho hL.even)
  have hpos := hL.pos
  have hoz : oddL (legsAt D (dart D (k, arm0 D k) L).1) = true := by
    have := hL.odd
    unfold evn at this
    simpa using this
  refine ⟨(dart D (k, arm0 D k) L).1, ?_⟩
  refine ⟨?_, ?_, ?_, ?_, ?_, ?_, ?_, two_zero hE (odd_ne hL.odd), ?_, fun hz => walk_back h1 hL hz⟩
  · rw [hw, pathK_len]; omega
  · rw [hw, pathK_len]; omega
  · rw [hw, pathK_get (by omega)]; rfl
  · rw [hw, pathK_len, pathK_get (by omega)]; rfl
  · rw [hw]; exact q1
  · rw [hw]; exact q2
  · rw [hw]; exact unk_sub fun x hx => pathB_sub ha hb hL.even x ((q3 x).1 hx)
  · generalize legsAt D (dart D (k, arm0 D k) L).1 = l at hoz
    obtain ⟨a, b, c, d⟩ := l
    exact odd_one_three a b c d hoz
/-- the kinds' names tell whether a knot lacks four bars -/
def openL (l : List LegT) (k : Nat) : Bool := (l.take k).any fun x => x.2.1 == 4
theorem openL_succ {l : List LegT} {k : Nat} (hk : k < l.length) : openL l (k + 1) = (openL l k || l[k].2.1 == 4) := by
  unfold openL
  rw [List.take_succ_eq_append_getElem hk, List.any_append]
  simp
theorem openL_new {D : List Bar} (hs : ∀ b ∈ D, Sided b) {l : List LegT} (hl : (holeK D).map (legOf D) = l) : openL l l.length = false ↔ ∀ k, cnt (legsAt D k) ≠ 4 := by
  unfold openL
  rw [List.take_length, ← hl, new_none hs, List.any_eq_false]
  constructor
  · intro h k hk h4
    exact h _ (List.mem_map.2 ⟨k, hk, rfl⟩) (by simpa [legOf] using h4)
  · intro h x hx
    obtain ⟨k, hk, rfl⟩ := List.mem_map.1 hx
    have := h k hk
    simpa [legOf] using this
/-- the run backwards, checked -/
theorem proved_back (hE : tornE N D = 0) {W : List Knot} (hW : runO D = some W) {l : List LegT} (hl : (holeK D).map (legOf D) = l) : provedE N D W.reverse = if openL l l.length then 21 else 0 := by
  have hok := torn_ok hE
  have hs : ∀ b ∈ D, Sided b := fun b hb => (hok.dam.ok b hb).2.2
  obtain ⟨k, L, rfl, R⟩ := run_at hW
  have hz := one_odd R.last
  have hbk := R.back_walk
  have hcw : cwE (walkL D (dart D (k, arm0 D k) L).1) = 0 := by
    obtain ⟨z, hb⟩ := back_at hE R.last
    exact hb.cw
  have hr : rdyB D = true := by unfold rdyB; rw [hW]; rfl
  rw [hbk] at hcw
  obtain ⟨z, hzz⟩ : ∃ z, (dart D (k, arm0 D k) L).1 = z := ⟨_, rfl⟩
  have hlast := R.last
  rw [hzz] at hbk hlast
  have hhead : (pathK D (k, arm0 D k) (L + 1)).reverse = z :: wk D D.length (z, arm0 D z) := by rw [← hbk]; rfl
  have h1 : oneB D (pathK D (k, arm0 D k) (L + 1)).reverse = true := by
    rw [hhead]
    show (cnt (legsAt D z) == 1) = true
    rw [hlast]; rfl
  have h2 : startsB D (pathK D (k, arm0 D k) (L + 1)).reverse = isRunP D (pathK D (k, arm0 D k) (L + 1)).reverse := by
    conv => lhs; rw [hhead]
    show (isRunP D (walkL D z) && decide (walkL D z = z :: _)) = _
    rw [hbk, hhead]; simp
  have hq := R.back
  rw [← openL_new hs hl] at hq
  unfold provedE
  rw [if_pos (by rw [hE, hcw]; rfl), if_pos hr, if_pos h1, h2]
  unfold whenI
  cases ho : openL l l.length
  · rw [hq.2 ho]; rfl
  · have : isRunP D (pathK D (k, arm0 D k) (L + 1)).reverse = false := by
      cases hh : isRunP D (pathK D (k, arm0 D k) (L + 1)).reverse
      · rfl
      · rw [hq.1 hh] at ho; cases ho
    rw [this]; rfl
end
end Go.Proofs.YtpompeancmonbaaGreat

/- The run of a torn net that is ready, plain: what the statement MendRestores says of it. Conditions: the torn net is valid. -/
namespace Go.Proofs.YtpompeancmonbaaGreat

/-- a run and how often it has passed a knot before a step -/
structure ResAt (N D : List Bar) (W : List Knot) (V : Knot → Nat → Nat) : Prop where
  odd2 : (oddK D).length = 2
  len : W.length = D.length + 1
  pos : 0 < D.length
  cw : cwE W = 0
  fst : ∃ a, W[0]? = some a ∧ a ∈ oddK D ∧ ∃ z, W[W.length - 1]? = some z ∧ z ∈ oddK D ∧ a ≠ z
  made : madeE W = 0 ∧ madeL W = D
  proved : provedE N D W = 0
  rest : restL N D W = N
  zero : ∀ k, V k 1 = 0
  step : ∀ (t : Nat) (_ : 0 < t) (h1 : t + 1 < W.length), legsAt D W[t] ≠ noLegs ∧ (cnt (legsAt D W[t]) = 2 ∨ cnt (legsAt D W[t]) = 4) ∧ V W[t] (t + 1) = V W[t] t + 1 ∧ 2 * V W[t] (t + 1) ≤ cnt (legsAt D W[t]) ∧
    (cnt (legsAt D W[t]) = 4 → V W[t] t = 0 → W[t].2 < W[t - 1].2 ∧ W[t].2 < W[t + 1].2) ∧ (cnt (legsAt D W[t]) = 4 → 0 < V W[t] t → W[t - 1].2 < W[t].2 ∧ W[t + 1].2 < W[t].2) ∧ ∀ k, k ≠ W[t] → V k (t + 1) = V k t
  fin : ∀ k, 0 < V k D.length → legsAt D k ≠ noLegs ∧ cnt (legsAt D k) = 2 * V k D.length
theorem run_walk {D : List Bar} {W : List Knot} (h : runO D = some W) : ∃ k, W = walkL D k ∧ isRunP D W = true ∧ cnt (legsAt D k) = 1 := by
  have key : ∀ k, tryRun D k = some W → ∃ k, W = walkL D k ∧ isRunP D W = true ∧ cnt (legsAt D k) = 1 := by
    intro k hk
    unfold tryRun at hk
    cases hc : (cnt (legsAt D k) == 1 && isRunP D (walkL D k)) with
    | false => rw [hc] at hk; cases hk
    | true =>
      rw [hc] at hk
      rw [Bool.and_eq_true, beq_iff_eq] at hc
      obtain rfl : walkL D k = W := by simpa using hk
      exact ⟨k, rfl, hc.2, hc.1⟩
  unfold runO at h
  split at h
  · split at h
    · rename_i w hw
      cases h
      exact key _ hw
    · exact key _ h
  · cases h
theorem cnt_four : ∀ a b c d, (a, b, c, d) ≠ noLegs → oddL (a, b, c, d) = false → cnt (a, b, c, d) = 2 ∨ cnt (a, b, c, d) = 4 := by decide
theorem res_at {N D : List Bar} (hE : tornE N D = 0) {W : List Knot} (h : runO D = some W) : ∃ V, ResAt N D W V := by
  have hok := torn_ok hE
  have hs : ∀ b ∈ D, Sided b := fun b hb => (hok.dam.ok b hb).2.2
  have hn := hok.dam.nodup
  have hr : rdyB D = true := by unfold rdyB; rw [h]; rfl
  obtain ⟨k', hw', hrun, hone⟩ := run_walk h
  obtain ⟨k, L, hw, R⟩ := run_at h
  obtain ⟨d, hd⟩ : ∃ d : Dart, (k, arm0 D k) = d := ⟨_, rfl⟩
  rw [hd] at hw R
  have hpos := R.wend.pos
  have hL := R.len
  obtain ⟨q1, q2, q3, q4⟩ := path_made (torn_nets hE).2 hpos (by omega) R.ok R.nodup
  rw [← hw] at q1 q2 q3 q4
  have hmade : madeL W = D := sortedB_eq q4 hok.dam.sorted fun x => by rw [q3]; exact ⟨R.sub x, R.all x⟩
  have hwlen : W.length = L + 1 := by rw [hw, pathK_len]
  have hget : ∀ (t : Nat) (ht : t < W.length), W[t] = (dart D d t).1 := fun t ht => by
    have h1 : W[t]? = some (dart D d t).1 := by rw [hw]; exact pathK_get (by omega)
    rw [List.getElem?_eq_getElem ht] at h1
    exact Option.some.inj h1
  have hpr : provedE N D W = 0 := by
    have hcons : W = k' :: wk D D.length (k', arm0 D k') := by rw [hw']; rfl
    have h1 : oneB D W = true := by
      rw [hcons]
      show (cnt (legsAt D k') == 1) = true
      rw [hone]; rfl
    have h2 : startsB D W = true := by
      conv => lhs; rw [hcons]
      show (isRunP D (walkL D k') && decide (walkL D k' = _)) = true
      rw [← hw', hrun, ← hcons]; simp
    unfold provedE
    rw [if_pos (by rw [hE, q1]; rfl), if_pos hr, if_pos h1, h2]
    rfl
  have hoz : ∀ t, t = 0 ∨ t = L → (dart D d t).1 ∈ oddK D := fun t ht => by
    rw [oddK_mem hs]
    have : cnt (legsAt D (dart D d t).1) = 1 := by
      rcases ht with rfl | rfl
      · exact R.first
      · exact R.last
    unfold oddL; rw [this]; rfl
  refine ⟨vs D d, ⟨rdy_odd hr, by omega, by omega, q1, ?_, ⟨q2, hmade⟩, hpr, ?_, fun k => by simp [vs], ?_, ?_⟩⟩
  · refine ⟨(dart D d 0).1, ?_, hoz 0 (.inl rfl), (dart D d L).1, ?_, hoz L (.inr rfl), ?_⟩
    · rw [hw]; exact pathK_get (by omega)
    · rw [hwlen, hw]; exact pathK_get (by omega)
    · have h1 : cnt (legsAt D k) = 1 := by rw [show k = d.1 by rw [← hd]]; exact R.first
      have := walk_end_ne h1 (L := L) (by rw [hd]; exact R.wend)
      rw [hd] at this
      show d.1 ≠ _
      rw [show d.1 = k by rw [← hd]]
      exact fun e => this e.symm
  · rw [rest_tog hpr, hmade]
    refine sortedB_eq (tog_sorted _ _ (wout_sorted hok.net.sorted)) hok.net.sorted fun x => ?_
    rw [tog_mem, wout_mem]
    constructor
    · rintro (h | h)
      · exact h.1
      · exact hok.sub x h
    · intro hx
      by_cases hm : x ∈ D
      · exact .inr hm
      · exact .inl ⟨hx, hm⟩
  · intro t h0 h1
    have ht : t < L := by omega
    rw [hget t (by omega), hget (t - 1) (by omega), hget (t + 1) h1]
    have hne : legsAt D (dart D d t).1 ≠ noLegs := legs_arm.2 ⟨(dart D d t).2, (R.ok t ht).1, (R.ok t ht).2⟩
    have hev : oddL (legsAt D (dart D d t).1) = false := by
      have := R.wend.even t h0 ht
      unfold evn at this
      simpa using this
    refine ⟨hne, ?_, vs_at h0, ?_, fun h4 hv => ?_, fun h4 hv => ?_, fun k hk => ?_⟩
    · generalize legsAt D (dart D d t).1 = l at hne hev
      obtain ⟨a, b, c, e⟩ := l
      exact cnt_four a b c e hne hev
    · rw [R.visits hn hs h0 ht]
      have := vs_mono (D := D) (d := d) (k := (dart D d t).1) (n := t + 1) L (by omega)
      omega
    · have := R.highY h0 ht h4 hv
      omega
    · have := R.lowY h0 ht h4 hv
      omega
    · show vs D d k t + (if 0 < t ∧ (dart D d t).1 = k then 1 else 0) = _
      rw [if_neg (fun e => hk e.2.symm)]
      rfl
  · intro k hk
    rw [← hL] at hk ⊢
    obtain ⟨t, h1, h2, rfl, _⟩ := vs_pos L hk
    exact ⟨legs_arm.2 ⟨(dart D d t).2, (R.ok t h2).1, (R.ok t h2).2⟩, R.visits hn hs h1 h2⟩
end Go.Proofs.YtpompeancmonbaaGreat

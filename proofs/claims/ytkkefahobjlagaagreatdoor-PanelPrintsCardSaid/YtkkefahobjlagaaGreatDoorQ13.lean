/- The bars of a sheet, of the program, walked. Conditions: small sheets. -/
import Derived.Test.YtkkefahobjlagaaGreatDoorQ12
import Derived.Test.YtkkefahobjlagaaGreatDoorQ08
import Derived.Test.YtkkefahobjlagaaGreatDoorQ07
import Derived.Deep.CutRange
namespace Go.Proofs.YtkkefahobjlagaaGreatDoor
open Go.RowKit Go.ChangeMaps
set_option maxHeartbeats 4000000
set_option maxRecDepth 100000
attribute [local go_sem] Oper.semAt_some
theorem wpListIn_appB1 {F : Fence} {n : Nat} {ops : Array Oper} {rest : List Oper} {o : Oper} {a : Act} {Q : Exit → Act → World → Prop} {base : Nat} {W : World} {v : Value} {X Y S : Int} {l : List Bar} (hown : OwB base W v l) {g : Nat} (hgd : o.guard = none) (s x : Operand)
  (ho : o.op = .call { callee := .builtin .append, args := #[s, x], argTypes := #[36, 36] })
  (hs : a.eval s = v) (hx : a.eval x = .slice (some ⟨g, 0, none⟩) 1 1) (hg : W.heap.size = g) (hlen : l.length ≤ 1000000) (hbase : base ≤ W.heap.size)
  (h : ∀ v' w', OwB base w' v' (l ++ [(X, Y, S)]) → (W.alloc (.cells #[.int .i64 X, .int .i64 Y, .int .i64 S] 77)).grownBy w' v.ownBlock → wpListIn F n Tryz.prog ops Q rest (a.put o.dst v') w') :
  wpListIn F n Tryz.prog ops Q (o :: rest) a (W.alloc (.cells #[.int .i64 X, .int .i64 Y, .int .i64 S] 77)) := by
 subst hg
 exact wpListIn_app hgd bar_elem bc_len bc_one s x ho base v _ l [(X, Y, S)] hs hx (hown.alloc _) (Sl.one_bar W X Y S) (by simp [maxLen]; omega) (by simp; omega) (by simp; omega) h
def sdB (x0 : Int) (c : Nat) (b : Bar) : List Bar := if x0 ≤ b.1 + b.2.2 ∧ b.1 + b.2.2 ≤ x0 + 2 * c then [b] else []
def shT (x0 : Int) (c : Nat) (x y : Int) : Nat → List Bar
 | 0 => []
 | t + 1 => shT x0 c x y t ++ sdB x0 c (x, y, 2 * (t : Int) - 1)
def shI (x0 : Int) (c : Nat) (y : Int) (n : Nat) : Nat → List Bar
 | 0 => []
 | i + 1 => shI x0 c y n i ++ shT x0 c (x0 + (n % 2 : Nat) + 2 * (i : Int)) y 2
def shN (x0 y0 : Int) (c : Nat) : Nat → List Bar
 | 0 => []
 | n + 1 => shN x0 y0 c n ++ shI x0 c (y0 + (n : Int)) n (c + 1 - n % 2)
theorem sdB_len (x0 : Int) (c : Nat) (b : Bar) : (sdB x0 c b).length ≤ 1 := by unfold sdB; split <;> simp
theorem shT_len (x0 : Int) (c : Nat) (x y : Int) : ∀ t, (shT x0 c x y t).length ≤ t
 | 0 => Nat.le_refl _
 | t + 1 => by
  have := shT_len x0 c x y t
  have := sdB_len x0 c (x, y, 2 * (t : Int) - 1)
  rw [shT, List.length_append]; omega
theorem shI_len (x0 : Int) (c : Nat) (y : Int) (n : Nat) : ∀ i, (shI x0 c y n i).length ≤ 2 * i
 | 0 => Nat.le_refl _
 | i + 1 => by
  have := shI_len x0 c y n i
  have := shT_len x0 c (x0 + (n % 2 : Nat) + 2 * (i : Int)) y 2
  rw [shI, List.length_append]; omega
theorem shN_len (x0 y0 : Int) (c : Nat) : ∀ n, (shN x0 y0 c n).length ≤ n * (2 * (c + 1))
 | 0 => by simp [shN]
 | n + 1 => by
  have := shN_len x0 y0 c n
  have := shI_len x0 c (y0 + (n : Int)) n (c + 1 - n % 2)
  rw [shN, List.length_append, Nat.succ_mul]
  omega
theorem sheet_any (x y c r : Int) (w : World) : Calls Tryz.prog 167 #[.agg #[.int .i64 x, .int .i64 y], .int .i64 c, .int .i64 r] w fun e w' =>
    e = .returned (.func (.func 193) #[] #[.pointer (some ⟨w.heap.size + 2, 0, none⟩), .pointer (some ⟨w.heap.size, 0, none⟩), .pointer (some ⟨w.heap.size + 1, 0, none⟩)]) ∧
    w' = ((w.alloc (.cells #[.int .i64 x, .int .i64 y] 40)).alloc (.cells #[.int .i64 c] 3)).alloc (.cells #[.int .i64 r] 3) := by
  go_enter Tryz.func167, Tryz.ntmps167
  go_wp2
  go_ret
  exact ⟨rfl, rfl⟩
@[go_sem] theorem idx2i_0 (w : World) : (Instr.index 73 (.agg #[.int .i64 (-1), .int .i64 1]) (.int .i64 0)).run Tryz.prog w = .ok (.int .i64 (-1)) w := by kernel_rfl
@[go_sem] theorem idx2i_1 (w : World) : (Instr.index 73 (.agg #[.int .i64 (-1), .int .i64 1]) (.int .i64 1)).run Tryz.prog w = .ok (.int .i64 1) w := by kernel_rfl
def encB (b : Bar) : Array Value := #[.agg #[.int .i64 b.1, .int .i64 b.2.1, .int .i64 b.2.2]]
theorem sheet_stops (nf : Nat) (hn : 1 ≤ nf) (S : List Nat) (B : Nat) (x0 y0 : Int) (c r : Nat) (hc : c ≤ 300) (hr : r ≤ 300) (hx : -200000 ≤ x0 ∧ x0 ≤ 200000) (hy : -200000 ≤ y0 ∧ y0 ≤ 200000) (w : World) (h1 : B ∉ S) (h2 : B + 1 ∉ S)
  (hA : Blk w B 40 #[.int .i64 x0, .int .i64 y0]) (hC : Blk w (B + 1) 3 #[.int .i64 c]) (hR : Blk w (B + 2) 3 #[.int .i64 r]) :
  SeqStopsK Fence.wide nf Tryz.prog 193 #[.pointer (some ⟨B + 2, 0, none⟩), .pointer (some ⟨B, 0, none⟩), .pointer (some ⟨B + 1, 0, none⟩)] encB (KeepB S w.heap.size) (fun ys => ys = shN x0 y0 c r) (fun _ => True) 1000000 w := fun l J Jx W hW hJ _ hY h0 => by
 have hcW : Chg S w W := Chg.of_below hW
 have fR := (hR.below hW).facts
 refine callsIn_of_wp Tryz.func193 rfl trivial ?_ rfl
 simp only [Tryz.ntmps193, List.size_toArray, List.length_cons, List.length_nil, Nat.reduceAdd, Nat.reduceSub, Array.replicate_succ, Array.replicate_zero, List.push_toArray, List.append_toArray, List.nil_append, List.cons_append]
 gi_wp2
 gi_loopw [11] (fun i wr => ∃ n : Nat, n ≤ r ∧ i = .int .i64 n ∧ J (shN x0 y0 c n) wr ∧ Chg S w wr) (fun i _ => r - (intOf i).toNat)
 case atStart => exact ⟨0, Nat.zero_le _, rfl, h0, hcW⟩
 case round =>
  clear fR h0
  obtain ⟨n, hn1, rfl, hJn, hcn⟩ := hrel
  by_cases hlt : n < r
  ·have fA := (hA.chg hcn h1).facts
   have hpar : n % 2 < 2 := Nat.mod_lt _ (by omega)
   have HD : Hid (shN x0 y0 c (n + 1) = shN x0 y0 c n ++ shI x0 c (y0 + (n : Int)) n (c + 1 - n % 2)) := rfl
   have hl1 := shN_len x0 y0 c n
   have hl2 : n * (2 * (c + 1)) ≤ 300 * 602 := Nat.mul_le_mul (by omega) (by omega)
   have hpre : (shN x0 y0 c n).length ≤ 200000 := by omega
   clear hl1 hl2
   obtain ⟨L, hL⟩ : ∃ L, shN x0 y0 c n = L := ⟨_, rfl⟩
   rw [hL] at hJn HD hpre
   clear hL
   obtain ⟨wn, rfl⟩ : ∃ x, x = wr := ⟨_, rfl⟩
   gi_wp2
   gi_loopw [6] (fun X wr => ∃ i : Nat, i ≤ c + 1 - n % 2 ∧ X = .int .i64 (x0 + ((n % 2 : Nat) : Int) + 2 * (i : Int)) ∧ J (L ++ shI x0 c (y0 + (n : Int)) n i) wr ∧ Chg S w wr) (fun X _ => (x0 + 2 * (c : Int) + 2 - intOf X).toNat)
   case atStart => exact ⟨0, Nat.zero_le _, congrArg (Value.int .i64) (by omega), by simpa [shI] using hJn, hcn⟩
   case round =>
    clear fA hJn hcn
    obtain ⟨i, hi, rfl, hJi, hci⟩ := hrel
    have HI : Hid (shI x0 c (y0 + (n : Int)) n (i + 1) = shI x0 c (y0 + (n : Int)) n i ++ shT x0 c (x0 + ((n % 2 : Nat) : Int) + 2 * (i : Int)) (y0 + (n : Int)) 2) := rfl
    have hl2 := shI_len x0 c (y0 + (n : Int)) n i
    obtain ⟨X, hX⟩ : ∃ X, x0 + ((n % 2 : Nat) : Int) + 2 * (i : Int) = X := ⟨_, rfl⟩
    rw [hX] at HI ⊢
    obtain ⟨Y, hY0⟩ : ∃ Y, y0 + (n : Int) = Y := ⟨_, rfl⟩
    rw [hY0] at HI hJi hl2
    have HX := Lib.hid (And.intro hX hY0)
    have fC := (hC.chg hci h2).facts
    have fA := (hA.chg hci h1).facts
    have hb1 : x0 ≤ X := by omega
    obtain ⟨wi, rfl⟩ : ∃ x, x = wr := ⟨_, rfl⟩
    by_cases hXl : X ≤ x0 + 2 * (c : Int)
    ·obtain ⟨M, hM⟩ : ∃ M, L ++ shI x0 c Y n i = M := ⟨_, rfl⟩
     have hMl : M.length ≤ 201000 := by rw [← hM, List.length_append]; omega
     have HM := Lib.hid hM
     rw [hM] at hJi
     have hlt2 : i < c + 1 - n % 2 := by omega
     clear hM hX hl2
     gi_wp2
     gi_loopw [29] (fun s wr => ∃ t : Nat, t ≤ 2 ∧ s = .int .i64 t ∧ J (M ++ shT x0 c X Y t) wr ∧ Chg S w wr) (fun s _ => 2 - (intOf s).toNat)
     case atStart => exact ⟨0, by omega, rfl, by simpa [shT] using hJi, hci⟩
     case round =>
      clear fA fC hJi hci
      obtain ⟨t, ht, rfl, hJt, hct⟩ := hrel
      have fC := (hC.chg hct h2).facts
      have fA := (hA.chg hct h1).facts
      have hl3 := shT_len x0 c X Y t
      obtain ⟨wt, rfl⟩ : ∃ x, x = wr := ⟨_, rfl⟩
      obtain rfl | rfl | rfl : t = 0 ∨ t = 1 ∨ t = 2 := by omega
      ·have hX0 := HX.out.1
       have hq2 : X + -1 ≤ x0 + 2 * (c : Int) := by omega
       by_cases hq1 : x0 ≤ X + -1
       ·have hq1' : (x0 ≤ X + -1) = True := by simpa using hq1
        have HT1 : Hid (shT x0 c X Y 1 = shT x0 c X Y 0 ++ [(X, Y, -1)]) := by
         have h0 : sdB x0 c (X, Y, -1) = [(X, Y, -1)] := by unfold sdB; rw [if_pos ⟨hq1, hq2⟩]
         exact congrArg (shT x0 c X Y 0 ++ ·) h0
        have hJ1 := abides_below hJ hJt (bl_alloc bl_refl (.cells #[.int .i64 X, .int .i64 Y, .int .i64 (-1)] 77))
        obtain ⟨fn, tmps, assign, body, hy, hR2⟩ := hY _ (X, Y, -1) _ hJ1 (by rw [List.length_append]; omega)
        have hy' : (Instr.yield l #[.agg #[.int .i64 X, .int .i64 Y, .int .i64 (-1)]]).run Tryz.prog (wt.alloc (.cells #[.int .i64 X, .int .i64 Y, .int .i64 (-1)] 77)) = .ok (.round l fn tmps assign body) (wt.alloc (.cells #[.int .i64 X, .int .i64 Y, .int .i64 (-1)] 77)) := hy
        clear hy hJt
        gi_wp2
        refine hR2.mono ?_
        rintro e W3 (⟨rfl, hJ3, hk3⟩ | ⟨rfl, hJx3⟩)
        ·gi_wp2
         go_roundw
         case rel => exact ⟨1, by omega, rfl, by rw [HT1.out, ← List.append_assoc]; exact hJ3, (hct.alloc _).keep hk3⟩
         case measure => simp [intOf]
        ·gi_wp2
         refine bodyPost_ret (results_none rfl _ _ _) rfl ?_
         exact ⟨⟨_, rfl⟩, .inr ⟨_, trivial, hJx3⟩⟩
       ·have hq1' : (x0 ≤ X + -1) = False := by simpa using hq1
        have HT1 : Hid (shT x0 c X Y 1 = shT x0 c X Y 0) := by
         have h0 : sdB x0 c (X, Y, -1) = [] := by unfold sdB; rw [if_neg (fun hh => by have := hh.1; have := hh.2; simp only at *; omega)]
         exact (congrArg (shT x0 c X Y 0 ++ ·) h0).trans (List.append_nil _)
        have hJ1 := abides_below hJ hJt (bl_alloc bl_refl (.cells #[.int .i64 X, .int .i64 Y, .int .i64 (-1)] 77))
        clear hJt
        gi_wp2_with (refine wpListIn_pass (by rfl) (fun _ => trivial) ?_)
        go_roundw
        case rel => exact ⟨1, by omega, rfl, by rw [HT1.out]; exact hJ1, hct.alloc _⟩
        case measure => simp [intOf]
      ·have hq1 : x0 ≤ X + 1 := by omega
       by_cases hq2 : X + 1 ≤ x0 + 2 * (c : Int)
       ·have hq2' : (X + 1 ≤ x0 + 2 * (c : Int)) = True := by simpa using hq2
        have HT1 : Hid (shT x0 c X Y 2 = shT x0 c X Y 1 ++ [(X, Y, 1)]) := by
         have h0 : sdB x0 c (X, Y, 1) = [(X, Y, 1)] := by unfold sdB; rw [if_pos ⟨hq1, hq2⟩]
         exact congrArg (shT x0 c X Y 1 ++ ·) h0
        have hJ1 := abides_below hJ hJt (bl_alloc bl_refl (.cells #[.int .i64 X, .int .i64 Y, .int .i64 1] 77))
        obtain ⟨fn, tmps, assign, body, hy, hR2⟩ := hY _ (X, Y, 1) _ hJ1 (by rw [List.length_append]; omega)
        have hy' : (Instr.yield l #[.agg #[.int .i64 X, .int .i64 Y, .int .i64 1]]).run Tryz.prog (wt.alloc (.cells #[.int .i64 X, .int .i64 Y, .int .i64 1] 77)) = .ok (.round l fn tmps assign body) (wt.alloc (.cells #[.int .i64 X, .int .i64 Y, .int .i64 1] 77)) := hy
        clear hy hJt
        gi_wp2
        refine hR2.mono ?_
        rintro e W3 (⟨rfl, hJ3, hk3⟩ | ⟨rfl, hJx3⟩)
        ·gi_wp2
         go_roundw
         case rel => exact ⟨2, by omega, rfl, by rw [HT1.out, ← List.append_assoc]; exact hJ3, (hct.alloc _).keep hk3⟩
         case measure => simp [intOf]
        ·gi_wp2
         refine bodyPost_ret (results_none rfl _ _ _) rfl ?_
         exact ⟨⟨_, rfl⟩, .inr ⟨_, trivial, hJx3⟩⟩
       ·have hq2' : (X + 1 ≤ x0 + 2 * (c : Int)) = False := by simpa using hq2
        have HT1 : Hid (shT x0 c X Y 2 = shT x0 c X Y 1) := by
         have h0 : sdB x0 c (X, Y, 1) = [] := by unfold sdB; rw [if_neg (fun hh => by have := hh.1; have := hh.2; simp only at *; omega)]
         exact (congrArg (shT x0 c X Y 1 ++ ·) h0).trans (List.append_nil _)
        have hJ1 := abides_below hJ hJt (bl_alloc bl_refl (.cells #[.int .i64 X, .int .i64 Y, .int .i64 1] 77))
        clear hJt
        gi_wp2_with (refine wpListIn_pass (by rfl) (fun _ => trivial) ?_)
        go_roundw
        case rel => exact ⟨2, by omega, rfl, by rw [HT1.out]; exact hJ1, hct.alloc _⟩
        case measure => simp [intOf]
      ·gi_wp2
       go_roundw
       case rel => exact ⟨i + 1, by omega, congrArg (Value.int .i64) (by have := HX.out.1; omega), by rw [HX.out.2, HI.out, ← List.append_assoc, HM.out]; exact hJt, hct⟩
       case measure => simp [intOf]; omega
    ·obtain rfl : i = c + 1 - n % 2 := by omega
     clear hX hY0
     gi_wp2
     go_roundw
     case rel => exact ⟨n + 1, by omega, by go_num, by rw [HD.out, HX.out.2]; exact hJi, hci⟩
     case measure => simp [intOf]; omega
  ·obtain rfl : n = r := by omega
   gi_wp2
   go_end0
   exact ⟨⟨_, rfl⟩, .inl ⟨_, rfl, hJn⟩⟩
end Go.Proofs.YtkkefahobjlagaaGreatDoor
namespace Go.Proofs.YtkkefahobjlagaaGreatDoor
open Go.RowKit Go.ChangeMaps
set_option maxHeartbeats 4000000
set_option maxRecDepth 100000
theorem barCmp_zero (a b : Bar) : barCmp a.1 a.2.1 a.2.2 b.1 b.2.1 b.2.2 = 0 ↔ a = b := by
 obtain ⟨x, y, s⟩ := a
 obtain ⟨x', y', s'⟩ := b
 simp only [barCmp, cmpI, firstI, Prod.mk.injEq]
 repeat' split
 all_goals first | omega | (constructor <;> intro h <;> omega)
theorem barCmp_neg (a b : Bar) : barCmp a.1 a.2.1 a.2.2 b.1 b.2.1 b.2.2 < 0 ↔ bltP a b := by
 have := barCmp_lt a.1 a.2.1 a.2.2 b.1 b.2.1 b.2.2
 unfold bltP
 cases h : barLt a.1 a.2.1 a.2.2 b.1 b.2.1 b.2.2
 ·rw [h] at this
  have h2 : 0 ≤ barCmp a.1 a.2.1 a.2.2 b.1 b.2.1 b.2.2 := of_decide_eq_true this
  constructor
  ·intro h3; omega
  ·intro h3; cases h3
 ·rw [h] at this
  have h2 : ¬ 0 ≤ barCmp a.1 a.2.1 a.2.2 b.1 b.2.1 b.2.2 := of_decide_eq_false this
  constructor
  ·intro _; rfl
  ·intro _; omega
def lenOf : Value → Nat
 | .slice _ n _ => n
 | _ => 0
theorem op_store_blk {o : Oper} {a : Act} {K : Act → World → Prop} {Q : Exit → Act → World → Prop} {w : World} {g : Nat} {t : TypeId} {cs cells : Array Value} (h : Blk w g t cs) (ty : TypeId) (x y : Operand) (ho : o.op = .store ty x y)
  (hx : a.eval x = .pointer (some ⟨g, 0, none⟩)) (hy : a.eval y = .agg cells) (hsz : cells.size = cs.size) (hi : (Tryz.prog.info? ty).map (·.size) = some cells.size) (h1 : cells.all (·.oneCell') = true)
  (hK : ∀ W', Blk W' g t cells → Chg [g] w W' → K (a.put o.dst undef) W') : o.wp Tryz.prog a w K Q := by
 obtain ⟨W', hr, h2, h3⟩ := h.store_ (P := Tryz.prog) ty hsz hi h1
 unfold Oper.wp execOp
 simp only [ho, hx, hy, Instr.storeAt, Instr.sureAddr, Sem.run_bind, Sem.run_pure, Result.andThen_ok, hr]
 exact hK W' h2 h3
theorem chg_bl {w W W' : World} {g : Nat} (h : Below w.heap.size w W) (hc : Chg [g] W W') (hg : w.heap.size ≤ g) : Below w.heap.size w W' :=
 ((Chg.of_below (S := [g]) h).trans hc).below (by simp; exact hg) (Nat.le_refl _)
def mergeF (K : Bool → Bool → Bool) : Nat → List Bar → List Bar → List Bar
 | 0, _, _ => []
 | _ + 1, [], [] => []
 | n + 1, x :: a, [] => (if K true false then [x] else []) ++ mergeF K n a []
 | n + 1, [], y :: b => (if K false true then [y] else []) ++ mergeF K n [] b
 | n + 1, x :: a, y :: b =>
  if bltP x y then (if K true false then [x] else []) ++ mergeF K n a (y :: b)
  else if x = y then (if K true true then [y] else []) ++ mergeF K n a b
  else (if K false true then [y] else []) ++ mergeF K n (x :: a) b
def mergeL (K : Bool → Bool → Bool) (a b : List Bar) : List Bar := mergeF K (a.length + b.length) a b
theorem lenOf_sl (A : Option Addr) (n c : Nat) : lenOf (.slice A n c) = n := rfl
theorem sl_tail {w : World} {b off c : Nat} {l : List Bar} {x : Bar} {n : Nat} (h : Rd bc 3 w (some ⟨b, off, none⟩) (x :: l)) (hn : (x :: l).length = n) (hlc : n ≤ c) (hc : c ≤ maxLen) :
  SlB w (.slice (if c = 1 then some ⟨b, off, none⟩ else some ⟨b, off + 3, none⟩) (n - 1) (c - 1)) l := by
 subst hn
 refine ⟨_, c - 1, by rw [show (x :: l).length - 1 = l.length by simp], by simp at hlc; omega, by omega, fun i y hy => ?_⟩
 have hlt := (List.getElem?_eq_some_iff.1 hy).1
 obtain ⟨b', off', e', hb, hc2⟩ := h (i + 1) y (by simpa using hy)
 obtain ⟨rfl, rfl⟩ : b = b' ∧ off = off' := by simpa using e'
 rw [if_neg (by simp at hlc; omega)]
 refine ⟨b, off + 3, rfl, hb, fun j u hu => ?_⟩
 have := hc2 j u hu
 rwa [show off + (i + 1) * 3 + j = off + 3 + i * 3 + j by omega] at this
theorem minusK_any (o t : Bool) (w : World) : Calls Tryz.prog 168 #[.bool o, .bool t] w (RV w (.bool (o && !t))) := by
 cases o <;> cases t
 all_goals
  go_enter Tryz.func168, Tryz.ntmps168
  go_wp2
  go_ret
  exact ⟨rfl, by (repeat first|exact J0|assumption|(apply J1;assumption)|apply J2|apply J3|apply J4)⟩
def twoE (a b : List Bar) : Int := firstI [netE a, netE b]
def putE (K : Bool → Bool → Bool) (a b : List Bar) : Int := if twoE a b ≠ 0 then twoE a b else if 4096 < (mergeL K a b).length then 5 else 0
def putL (K : Bool → Bool → Bool) (a b : List Bar) : List Bar := if putE K a b = 0 then mergeL K a b else []
theorem firstI_zero {a b : Int} (h : firstI [a, b] = 0) : a = 0 ∧ b = 0 := by
 unfold firstI firstI firstI at h
 split at h
 ·rename_i h1
  split at h
  ·rename_i h2; exact ⟨h1, h2⟩
  ·rename_i h2; exact absurd h h2
 ·rename_i h1; exact absurd h h1
def minusK (o t : Bool) : Bool := o && !t
def unionK (o t : Bool) : Bool := o || t
end Go.Proofs.YtkkefahobjlagaaGreatDoor
namespace Go.Proofs.YtkkefahobjlagaaGreatDoor
open Go.RowKit Go.ChangeMaps
set_option maxHeartbeats 4000000
set_option maxRecDepth 100000
attribute [local go_sem] Oper.semAt_some
theorem unionK3_any (o t : Bool) (w : World) : Calls Tryz.prog 81 #[.bool o, .bool t] w (RV w (.bool (o || t))) := by
 cases o <;> cases t
 all_goals
  go_enter Tryz.func81, Tryz.ntmps81
  go_wp2
  go_ret
  exact ⟨rfl, by (repeat first|exact J0|assumption|(apply J1;assumption)|apply J2|apply J3|apply J4)⟩
theorem merged3_any {va vb : Value} (K : Bool → Bool → Bool) (g : Nat) (hg3 : Hid (g = 81)) (hg : ∀ o t W, Calls Tryz.prog g #[.bool o, .bool t] W (RV W (.bool (K o t)))) (a b : List Bar) (w : World) (ha : SlB w va a) (hb : SlB w vb b) (hla : a.length ≤ 10000) (hlb : b.length ≤ 10000) :
  Calls Tryz.prog 139 #[va, vb, .func (.func 136) #[] #[], .func (.func g) #[] #[]] w (RB w (mergeL K a b)) := by
 go_enter Tryz.func139, Tryz.ntmps139
 go_wp2
 go_loopw [0, 1, 9] (fun s t o wr => ∃ (n : Nat) (a' b' acc : List Bar), SlB w s a' ∧ SlB w t b' ∧ a'.length + b'.length ≤ n ∧ n ≤ 20000 ∧ Hid (mergeL K a b = acc ++ mergeF K n a' b') ∧ acc.length + n ≤ 20000 ∧ OwB w.heap.size wr o acc ∧ Below w.heap.size w wr) (fun s t _ _ => (lenOf s) + (lenOf t))
 case atStart => exact ⟨a.length + b.length, a, b, [], ha, hb, Nat.le_refl _, by omega, by unfold Hid mergeL; simp, by simp; omega, Own.nil_, bl_refl⟩
 case round =>
  obtain ⟨n, a', b', acc, hA, hB, hn, hn2, H, hacc, hO, hbw⟩ := hrel
  obtain ⟨wo, rfl⟩ : ∃ x, x = wr := ⟨_, rfl⟩
  obtain ⟨A, c, rfl, hlc, hcm, hrA⟩ := id hA
  obtain ⟨A2, c2, rfl, hlc2, hcm2, hrB⟩ := id hB
  have hrA0 := hrA.below hbw
  have hrB0 := hrB.below hbw
  cases a' with
  | nil =>
   cases b' with
   | nil =>
    have HE : Hid (mergeL K a b = acc) := by unfold Hid; rw [H.out]; cases n <;> simp [mergeF]
    go_wp2
    go_ret
    exact ⟨_, rfl, by rw [HE.out]; exact hO, hbw⟩
   | cons y b' =>
    obtain ⟨⟨x2, y2, s2⟩, rfl⟩ : ∃ z, z = y := ⟨_, rfl⟩
    obtain ⟨b2, off2, rfl, hbb2, d20, d21, d22⟩ := hrB0.bar (show 0 < ((x2, y2, s2) :: b').length by simp)
    simp only [List.getElem_cons_zero, Nat.zero_mul, Nat.add_zero] at d20 d21 d22
    obtain ⟨n', rfl⟩ : ∃ n', n = n' + 1 := ⟨n - 1, by simp at hn; omega⟩
    have HE : Hid (mergeL K a b = acc ++ ((if K false true then [(x2, y2, s2)] else []) ++ mergeF K n' [] b')) := H
    obtain ⟨m, hml⟩ : ∃ m, ((x2, y2, s2) :: b').length = m := ⟨_, rfl⟩
    have hmb : b'.length + 1 = m := by simpa using hml
    have hmz : ((m : Int) == 0) = false := by simp; omega
    have hmp : (0 < (m : Int)) = True := by simp; omega
    rw [hml] at hlc2 ⊢
    simp only [List.length_nil] at hA ⊢
    go_upto_region 13 with fail
    have hX := (Blk.new wo 77 #[.int .i64 0, .int .i64 0, .int .i64 0]).drew
    refine wp_region_ord (wo.heap.size) [0, 1, 2, 3, 4] [(5, false)] [6] (by kernel_rfl) (by kernel_rfl) (fun d _ _ _ _ h => by cases d <;> exact h) ?_
    simp only [List.map_cons, List.map_nil, List.getD_cons_zero, List.getD_cons_succ]
    repeat (go_big_quiet_step (fail))
    refine wpQuiet_nil ?_
    refine wpMid_run rfl (fun K hK => ?_)
    refine op_store_blk hX _ _ _ rfl rfl rfl rfl (by kernel_rfl) (by kernel_rfl) ?_
    intro w7 hXw7 hcw7
    have hbw7 : Below wo.heap.size wo w7 := chg_bl (by (repeat first|exact J0|assumption|(apply J1;assumption)|apply J2|apply J3|apply J4)) hcw7 (Nat.le_refl _)
    refine hK _ _ (((Chg.of_below (S := [wo.heap.size]) (bl_drew bl_refl)).trans hcw7).below (by simp) (by first | (simp; done) | (have := Below.size (show Below wo.heap.size wo wo by (repeat first|exact J0|assumption|(apply J1;assumption)|apply J2|apply J3|apply J4)); omega))) ?_
    clear hK K hX
    refine wpMid_nil ?_
    obtain ⟨vt2, hvt2⟩ : ∃ X, Value.slice (if c2 = 1 then some ⟨b2, off2, none⟩ else some ⟨b2, off2 + 3, none⟩) (m - 1) (c2 - 1) = X := ⟨_, rfl⟩
    have hT2 := sl_tail hrB hml hlc2 hcm2
    have hL2 : lenOf vt2 = m - 1 := by rw [← hvt2]; rfl
    rw [hvt2] at hT2 ⊢
    clear hvt2
    go_upto_region 14 with fail
    go_cut [53] from 12 to 57 (fun s wx => s = .bool (K false true) ∧ Below w7.heap.size w7 wx)
    case first =>
     clear H HE
     obtain rfl := hg3.out
     all_goals
      go_wp2_with fail
      refine (hg _ _ _).mono ?_
      rintro e w8 ⟨rfl, hb8⟩
      go_wp2_with fail
      go_meet
      case rel => exact ⟨rfl, by (repeat first|exact J0|assumption|(apply J1;assumption)|apply J2|apply J3|apply J4)⟩
    obtain ⟨rfl, hb8⟩ := hcut
    obtain ⟨w8, rfl⟩ : ∃ x, x = wc := ⟨_, rfl⟩
    have hX8 := hXw7.below hb8
    have fX8 := hX8.facts
    have hb80 : Below wo.heap.size wo w8 := by (repeat first|exact J0|assumption|(apply J1;assumption)|apply J2|apply J3|apply J4)
    have hA8 := hA
    have hB8 := hT2
    have hO8 := hO.below hb80
    have hbw8 := bl_then hb80 hbw
    obtain ⟨q, hq⟩ : ∃ q, K false true = q := ⟨_, rfl⟩
    rw [hq] at HE ⊢
    clear hq hX8 hXw7
    cases q
    ·have HE2 : Hid (mergeL K a b = acc ++ mergeF K n' ([]) (b')) := by unfold Hid; rw [HE.out]; simp
     go_wp2
     go_roundw
     case rel => exact ⟨n', [], b', acc, hA8, hB8, by simp at hn ⊢; omega, by omega, HE2, by omega, hO8, hbw8⟩
     case measure => simp only [hL2, lenOf_sl]; omega
    ·have HE2 : Hid (mergeL K a b = (acc ++ [(x2, y2, s2)]) ++ mergeF K n' ([]) (b')) := by unfold Hid; rw [HE.out]; simp
     go_wp2_with (at_builtin; refine wpList_appB1 hO8 rfl _ _ rfl rfl rfl (by simp) (by omega) hbw8.size ?_; intro v9 w9 hown9 hgr9)
     have hb9 := own_step hO8 hgr9 (by (repeat first|exact J0|assumption|(apply J1;assumption)|apply J2|apply J3|apply J4))
     clear hgr9
     go_wp2
     go_roundw
     case rel => exact ⟨n', [], b', _, hA8, hB8, by simp at hn ⊢; omega, by omega, HE2, by simp; omega, hown9, hb9⟩
     case measure => simp only [hL2, lenOf_sl]; omega
  | cons x a' =>
   obtain ⟨⟨x1, y1, s1⟩, rfl⟩ : ∃ z, z = x := ⟨_, rfl⟩
   obtain ⟨b1, off1, rfl, hbb1, d10, d11, d12⟩ := hrA0.bar (show 0 < ((x1, y1, s1) :: a').length by simp)
   simp only [List.getElem_cons_zero, Nat.zero_mul, Nat.add_zero] at d10 d11 d12
   obtain ⟨n', rfl⟩ : ∃ n', n = n' + 1 := ⟨n - 1, by simp at hn; omega⟩
   obtain ⟨m1, hml1⟩ : ∃ m, ((x1, y1, s1) :: a').length = m := ⟨_, rfl⟩
   have hma : a'.length + 1 = m1 := by simpa using hml1
   have hmz1 : ((m1 : Int) == 0) = false := by simp; omega
   have hmp1 : (0 < (m1 : Int)) = True := by simp; omega
   rw [hml1] at hlc hA ⊢
   cases b' with
   | nil =>
    have HE : Hid (mergeL K a b = acc ++ ((if K true false then [(x1, y1, s1)] else []) ++ mergeF K n' a' [])) := H
    simp only [List.length_nil] at hB ⊢
    go_upto_region 11 with fail
    have hX := (Blk.new wo 77 #[.int .i64 0, .int .i64 0, .int .i64 0]).drew
    refine wp_region_ord (wo.heap.size) [0, 1, 2, 3, 4] [(5, false)] [6] (by kernel_rfl) (by kernel_rfl) (fun d _ _ _ _ h => by cases d <;> exact h) ?_
    simp only [List.map_cons, List.map_nil, List.getD_cons_zero, List.getD_cons_succ]
    repeat (go_big_quiet_step (fail))
    refine wpQuiet_nil ?_
    refine wpMid_run rfl (fun K hK => ?_)
    refine op_store_blk hX _ _ _ rfl rfl rfl rfl (by kernel_rfl) (by kernel_rfl) ?_
    intro w7 hXw7 hcw7
    have hbw7 : Below wo.heap.size wo w7 := chg_bl (by (repeat first|exact J0|assumption|(apply J1;assumption)|apply J2|apply J3|apply J4)) hcw7 (Nat.le_refl _)
    refine hK _ _ (((Chg.of_below (S := [wo.heap.size]) (bl_drew bl_refl)).trans hcw7).below (by simp) (by first | (simp; done) | (have := Below.size (show Below wo.heap.size wo wo by (repeat first|exact J0|assumption|(apply J1;assumption)|apply J2|apply J3|apply J4)); omega))) ?_
    clear hK K hX
    refine wpMid_nil ?_
    obtain ⟨vt1, hvt1⟩ : ∃ X, Value.slice (if c = 1 then some ⟨b1, off1, none⟩ else some ⟨b1, off1 + 3, none⟩) (m1 - 1) (c - 1) = X := ⟨_, rfl⟩
    have hT1 := sl_tail hrA hml1 hlc hcm
    have hL1 : lenOf vt1 = m1 - 1 := by rw [← hvt1]; rfl
    rw [hvt1] at hT1 ⊢
    clear hvt1
    go_upto_region 14 with fail
    go_cut [53] from 12 to 57 (fun s wx => s = .bool (K true false) ∧ Below w7.heap.size w7 wx)
    case first =>
     clear H HE
     obtain rfl := hg3.out
     all_goals
      go_wp2_with fail
      refine (hg _ _ _).mono ?_
      rintro e w8 ⟨rfl, hb8⟩
      go_wp2_with fail
      go_meet
      case rel => exact ⟨rfl, by (repeat first|exact J0|assumption|(apply J1;assumption)|apply J2|apply J3|apply J4)⟩
    obtain ⟨rfl, hb8⟩ := hcut
    obtain ⟨w8, rfl⟩ : ∃ x, x = wc := ⟨_, rfl⟩
    have hX8 := hXw7.below hb8
    have fX8 := hX8.facts
    have hb80 : Below wo.heap.size wo w8 := by (repeat first|exact J0|assumption|(apply J1;assumption)|apply J2|apply J3|apply J4)
    have hA8 := hT1
    have hB8 := hB
    have hO8 := hO.below hb80
    have hbw8 := bl_then hb80 hbw
    obtain ⟨q, hq⟩ : ∃ q, K true false = q := ⟨_, rfl⟩
    rw [hq] at HE ⊢
    clear hq hX8 hXw7
    cases q
    ·have HE2 : Hid (mergeL K a b = acc ++ mergeF K n' (a') ([])) := by unfold Hid; rw [HE.out]; simp
     go_wp2
     go_roundw
     case rel => exact ⟨n', a', [], acc, hA8, hB8, by simp at hn ⊢; omega, by omega, HE2, by omega, hO8, hbw8⟩
     case measure => simp only [hL1, lenOf_sl]; omega
    ·have HE2 : Hid (mergeL K a b = (acc ++ [(x1, y1, s1)]) ++ mergeF K n' (a') ([])) := by unfold Hid; rw [HE.out]; simp
     go_wp2_with (at_builtin; refine wpList_appB1 hO8 rfl _ _ rfl rfl rfl (by simp) (by omega) hbw8.size ?_; intro v9 w9 hown9 hgr9)
     have hb9 := own_step hO8 hgr9 (by (repeat first|exact J0|assumption|(apply J1;assumption)|apply J2|apply J3|apply J4))
     clear hgr9
     go_wp2
     go_roundw
     case rel => exact ⟨n', a', [], _, hA8, hB8, by simp at hn ⊢; omega, by omega, HE2, by simp; omega, hown9, hb9⟩
     case measure => simp only [hL1, lenOf_sl]; omega
   | cons y b' =>
    obtain ⟨⟨x2, y2, s2⟩, rfl⟩ : ∃ z, z = y := ⟨_, rfl⟩
    obtain ⟨b2, off2, rfl, hbb2, d20, d21, d22⟩ := hrB0.bar (show 0 < ((x2, y2, s2) :: b').length by simp)
    simp only [List.getElem_cons_zero, Nat.zero_mul, Nat.add_zero] at d20 d21 d22
    obtain ⟨m2, hml2⟩ : ∃ m, ((x2, y2, s2) :: b').length = m := ⟨_, rfl⟩
    have hmb : b'.length + 1 = m2 := by simpa using hml2
    have hmz2 : ((m2 : Int) == 0) = false := by simp; omega
    have hmp2 : (0 < (m1 : Int) + (m2 : Int)) = True := by simp; omega
    rw [hml2] at hlc2 hB ⊢
    obtain ⟨cv, hcv⟩ : ∃ q, barCmp x1 y1 s1 x2 y2 s2 = q := ⟨_, rfl⟩
    have hc := fun W => ncompare_any x1 y1 s1 x2 y2 s2 W
    have hneg := barCmp_neg (x1, y1, s1) (x2, y2, s2)
    have hzer := barCmp_zero (x1, y1, s1) (x2, y2, s2)
    simp only at hneg hzer
    rw [hcv] at hc hneg hzer
    have HNZ := Lib.hid (And.intro hneg hzer)
    clear hneg hzer hcv
    by_cases hlt : cv < 0
    ·have hbl := HNZ.out.1.1 hlt
     have HE : Hid (mergeL K a b = acc ++ ((if K true false then [(x1, y1, s1)] else []) ++ mergeF K n' a' ((x2, y2, s2) :: b'))) := by
      unfold Hid
      rw [H.out]
      simp only [mergeF]
      rw [if_pos hbl]
     have t1 : (cv ≤ 0) = True := eq_true (by omega)
     have t2 : (0 ≤ cv) = False := eq_false (by omega)
     clear hbl hlt
     go_upto_region 4 with fail
     refine wp_region_ords [0, 1, 2, 3, 4, 5, 6] [] [7, 8] (by kernel_rfl) (by kernel_rfl) (fun d _ _ _ _ h => by cases d <;> exact h) ?_
     simp only [List.map_cons, List.map_nil, List.getD_cons_zero, List.getD_cons_succ]
     repeat (go_big_quiet_step (fail))
     refine wpQuiet_nil ?_
     refine wpMid_nil ?_
     go_wp2_with fail
     refine (hc _).mono ?_
     rintro e w4 ⟨rfl, hb4⟩
     have hbc : Below wo.heap.size wo w4 := by (repeat first|exact J0|assumption|(apply J1;assumption)|apply J2|apply J3|apply J4)
     have hrA4 := hrA0.below hbc
     have hrB4 := hrB0.below hbc
     clear hbb1 hbb2 d10 d11 d12 d20 d21 d22 hc hb4
     obtain ⟨hbb1, d10, d11, d12⟩ := hrA4.barAt (show 0 < ((x1, y1, s1) :: a').length by simp)
     obtain ⟨hbb2, d20, d21, d22⟩ := hrB4.barAt (show 0 < ((x2, y2, s2) :: b').length by simp)
     simp only [List.getElem_cons_zero, Nat.zero_mul, Nat.add_zero] at d10 d11 d12 d20 d21 d22
     go_upto_region 11 with fail
     have hX := (Blk.new w4 77 #[.int .i64 0, .int .i64 0, .int .i64 0]).drew
     refine wp_region_ord (w4.heap.size) [0, 1, 2, 3, 4] [(5, false)] [6] (by kernel_rfl) (by kernel_rfl) (fun d _ _ _ _ h => by cases d <;> exact h) ?_
     simp only [List.map_cons, List.map_nil, List.getD_cons_zero, List.getD_cons_succ]
     repeat (go_big_quiet_step (fail))
     refine wpQuiet_nil ?_
     refine wpMid_run rfl (fun K hK => ?_)
     refine op_store_blk hX _ _ _ rfl rfl rfl rfl (by kernel_rfl) (by kernel_rfl) ?_
     intro w7 hXw7 hcw7
     have hbw7 : Below w4.heap.size w4 w7 := chg_bl (by (repeat first|exact J0|assumption|(apply J1;assumption)|apply J2|apply J3|apply J4)) hcw7 (Nat.le_refl _)
     refine hK _ _ (((Chg.of_below (S := [w4.heap.size]) (bl_drew bl_refl)).trans hcw7).below (by simp) (by first | (simp; done) | (have := Below.size (show Below w4.heap.size w4 w4 by (repeat first|exact J0|assumption|(apply J1;assumption)|apply J2|apply J3|apply J4)); omega))) ?_
     clear hK K hX
     refine wpMid_nil ?_
     obtain ⟨vt1, hvt1⟩ : ∃ X, Value.slice (if c = 1 then some ⟨b1, off1, none⟩ else some ⟨b1, off1 + 3, none⟩) (m1 - 1) (c - 1) = X := ⟨_, rfl⟩
     have hT1 := sl_tail hrA hml1 hlc hcm
     have hL1 : lenOf vt1 = m1 - 1 := by rw [← hvt1]; rfl
     rw [hvt1] at hT1 ⊢
     clear hvt1
     go_upto_region 14 with fail
     go_cut [53] from 12 to 57 (fun s wx => s = .bool (K true false) ∧ Below w7.heap.size w7 wx)
     case first =>
      clear H HE
      obtain rfl := hg3.out
      all_goals
       go_wp2_with fail
       refine (hg _ _ _).mono ?_
       rintro e w8 ⟨rfl, hb8⟩
       go_wp2_with fail
       go_meet
       case rel => exact ⟨rfl, by (repeat first|exact J0|assumption|(apply J1;assumption)|apply J2|apply J3|apply J4)⟩
     obtain ⟨rfl, hb8⟩ := hcut
     obtain ⟨w8, rfl⟩ : ∃ x, x = wc := ⟨_, rfl⟩
     have hX8 := hXw7.below hb8
     have fX8 := hX8.facts
     have hb80 : Below wo.heap.size wo w8 := by (repeat first|exact J0|assumption|(apply J1;assumption)|apply J2|apply J3|apply J4)
     have hA8 := hT1
     have hB8 := hB
     have hO8 := hO.below hb80
     have hbw8 := bl_then hb80 hbw
     obtain ⟨q, hq⟩ : ∃ q, K true false = q := ⟨_, rfl⟩
     rw [hq] at HE ⊢
     clear hq hX8 hXw7
     cases q
     ·have HE2 : Hid (mergeL K a b = acc ++ mergeF K n' (a') ((x2, y2, s2) :: b')) := by unfold Hid; rw [HE.out]; simp
      go_wp2
      go_roundw
      case rel => exact ⟨n', a', (x2, y2, s2) :: b', acc, hA8, hB8, by simp at hn ⊢; omega, by omega, HE2, by omega, hO8, hbw8⟩
      case measure => simp only [hL1, lenOf_sl]; omega
     ·have HE2 : Hid (mergeL K a b = (acc ++ [(x1, y1, s1)]) ++ mergeF K n' (a') ((x2, y2, s2) :: b')) := by unfold Hid; rw [HE.out]; simp
      go_wp2_with (at_builtin; refine wpList_appB1 hO8 rfl _ _ rfl rfl rfl (by simp) (by omega) hbw8.size ?_; intro v9 w9 hown9 hgr9)
      have hb9 := own_step hO8 hgr9 (by (repeat first|exact J0|assumption|(apply J1;assumption)|apply J2|apply J3|apply J4))
      clear hgr9
      go_wp2
      go_roundw
      case rel => exact ⟨n', a', (x2, y2, s2) :: b', _, hA8, hB8, by simp at hn ⊢; omega, by omega, HE2, by simp; omega, hown9, hb9⟩
      case measure => simp only [hL1, lenOf_sl]; omega
    ·by_cases hez : cv = 0
     ·have hee := HNZ.out.2.1 hez
      have HE : Hid (mergeL K a b = acc ++ ((if K true true then [(x2, y2, s2)] else []) ++ mergeF K n' a' b')) := by
       unfold Hid
       rw [H.out]
       simp only [mergeF]
       rw [if_neg (fun h => by rw [hee] at h; exact bltP_irrefl _ h), if_pos hee]
      have t1 : (cv ≤ 0) = True := eq_true (by omega)
      have t2 : (0 ≤ cv) = True := eq_true (by omega)
      clear hlt hez hee
      go_upto_region 4 with fail
      refine wp_region_ords [0, 1, 2, 3, 4, 5, 6] [] [7, 8] (by kernel_rfl) (by kernel_rfl) (fun d _ _ _ _ h => by cases d <;> exact h) ?_
      simp only [List.map_cons, List.map_nil, List.getD_cons_zero, List.getD_cons_succ]
      repeat (go_big_quiet_step (fail))
      refine wpQuiet_nil ?_
      refine wpMid_nil ?_
      go_wp2_with fail
      refine (hc _).mono ?_
      rintro e w4 ⟨rfl, hb4⟩
      have hbc : Below wo.heap.size wo w4 := by (repeat first|exact J0|assumption|(apply J1;assumption)|apply J2|apply J3|apply J4)
      have hrA4 := hrA0.below hbc
      have hrB4 := hrB0.below hbc
      clear hbb1 hbb2 d10 d11 d12 d20 d21 d22 hc hb4
      obtain ⟨hbb1, d10, d11, d12⟩ := hrA4.barAt (show 0 < ((x1, y1, s1) :: a').length by simp)
      obtain ⟨hbb2, d20, d21, d22⟩ := hrB4.barAt (show 0 < ((x2, y2, s2) :: b').length by simp)
      simp only [List.getElem_cons_zero, Nat.zero_mul, Nat.add_zero] at d10 d11 d12 d20 d21 d22
      go_upto_region 11 with fail
      have hX := (Blk.new w4 77 #[.int .i64 0, .int .i64 0, .int .i64 0]).drew
      refine wp_region_ord (w4.heap.size) [0, 1, 2, 3, 4] [(5, false)] [6] (by kernel_rfl) (by kernel_rfl) (fun d _ _ _ _ h => by cases d <;> exact h) ?_
      simp only [List.map_cons, List.map_nil, List.getD_cons_zero, List.getD_cons_succ]
      repeat (go_big_quiet_step (fail))
      refine wpQuiet_nil ?_
      refine wpMid_run rfl (fun K hK => ?_)
      refine op_store_blk hX _ _ _ rfl rfl rfl rfl (by kernel_rfl) (by kernel_rfl) ?_
      intro w7 hXw7 hcw7
      have hbw7 : Below w4.heap.size w4 w7 := chg_bl (by (repeat first|exact J0|assumption|(apply J1;assumption)|apply J2|apply J3|apply J4)) hcw7 (Nat.le_refl _)
      refine hK _ _ (((Chg.of_below (S := [w4.heap.size]) (bl_drew bl_refl)).trans hcw7).below (by simp) (by first | (simp; done) | (have := Below.size (show Below w4.heap.size w4 w4 by (repeat first|exact J0|assumption|(apply J1;assumption)|apply J2|apply J3|apply J4)); omega))) ?_
      clear hK K hX
      refine wpMid_nil ?_
      obtain ⟨vt1, hvt1⟩ : ∃ X, Value.slice (if c = 1 then some ⟨b1, off1, none⟩ else some ⟨b1, off1 + 3, none⟩) (m1 - 1) (c - 1) = X := ⟨_, rfl⟩
      have hT1 := sl_tail hrA hml1 hlc hcm
      have hL1 : lenOf vt1 = m1 - 1 := by rw [← hvt1]; rfl
      rw [hvt1] at hT1 ⊢
      clear hvt1
      have hrB7 := hrB4.below hbw7
      obtain ⟨_, f20, f21, f22⟩ := hrB7.barAt (show 0 < ((x2, y2, s2) :: b').length by simp)
      simp only [List.getElem_cons_zero, Nat.zero_mul, Nat.add_zero] at f20 f21 f22
      have hbb7 := Nat.lt_of_lt_of_le hbb2 (Below.size hbw7)
      go_upto_region 13 with fail
      have hX := hXw7.drew
      refine wp_region_ord (w4.heap.size) [0, 1, 2, 3, 4] [(5, false)] [6] (by kernel_rfl) (by kernel_rfl) (fun d _ _ _ _ h => by cases d <;> exact h) ?_
      simp only [List.map_cons, List.map_nil, List.getD_cons_zero, List.getD_cons_succ]
      repeat (go_big_quiet_step (fail))
      refine wpQuiet_nil ?_
      refine wpMid_run rfl (fun K hK => ?_)
      refine op_store_blk hX _ _ _ rfl rfl rfl rfl (by kernel_rfl) (by kernel_rfl) ?_
      intro w9 hXw9 hcw9
      have hbw9 : Below w4.heap.size w4 w9 := chg_bl (by (repeat first|exact J0|assumption|(apply J1;assumption)|apply J2|apply J3|apply J4)) hcw9 (Nat.le_refl _)
      refine hK _ _ (((Chg.of_below (S := [w4.heap.size]) (bl_drew bl_refl)).trans hcw9).below (by simp) (by first | (simp; done) | (have := Below.size (show Below w4.heap.size w4 w7 by (repeat first|exact J0|assumption|(apply J1;assumption)|apply J2|apply J3|apply J4)); omega))) ?_
      clear hK K hX
      refine wpMid_nil ?_
      obtain ⟨vt2, hvt2⟩ : ∃ X, Value.slice (if c2 = 1 then some ⟨b2, off2, none⟩ else some ⟨b2, off2 + 3, none⟩) (m2 - 1) (c2 - 1) = X := ⟨_, rfl⟩
      have hT2 := sl_tail hrB hml2 hlc2 hcm2
      have hL2 : lenOf vt2 = m2 - 1 := by rw [← hvt2]; rfl
      rw [hvt2] at hT2 ⊢
      clear hvt2
      go_upto_region 14 with fail
      go_cut [53] from 12 to 57 (fun s wx => s = .bool (K true true) ∧ Below w9.heap.size w9 wx)
      case first =>
       clear H HE
       obtain rfl := hg3.out
       all_goals
        go_wp2_with fail
        refine (hg _ _ _).mono ?_
        rintro e w8 ⟨rfl, hb8⟩
        go_wp2_with fail
        go_meet
        case rel => exact ⟨rfl, by (repeat first|exact J0|assumption|(apply J1;assumption)|apply J2|apply J3|apply J4)⟩
      obtain ⟨rfl, hb8⟩ := hcut
      obtain ⟨w8, rfl⟩ : ∃ x, x = wc := ⟨_, rfl⟩
      have hX8 := hXw9.below hb8
      have fX8 := hX8.facts
      have hb80 : Below wo.heap.size wo w8 := by (repeat first|exact J0|assumption|(apply J1;assumption)|apply J2|apply J3|apply J4)
      have hA8 := hT1
      have hB8 := hT2
      have hO8 := hO.below hb80
      have hbw8 := bl_then hb80 hbw
      obtain ⟨q, hq⟩ : ∃ q, K true true = q := ⟨_, rfl⟩
      rw [hq] at HE ⊢
      clear hq hX8 hXw9
      cases q
      ·have HE2 : Hid (mergeL K a b = acc ++ mergeF K n' (a') (b')) := by unfold Hid; rw [HE.out]; simp
       go_wp2
       go_roundw
       case rel => exact ⟨n', a', b', acc, hA8, hB8, by simp at hn ⊢; omega, by omega, HE2, by omega, hO8, hbw8⟩
       case measure => simp only [hL1, hL2, lenOf_sl]; omega
      ·have HE2 : Hid (mergeL K a b = (acc ++ [(x2, y2, s2)]) ++ mergeF K n' (a') (b')) := by unfold Hid; rw [HE.out]; simp
       go_wp2_with (at_builtin; refine wpList_appB1 hO8 rfl _ _ rfl rfl rfl (by simp) (by omega) hbw8.size ?_; intro v9 w9 hown9 hgr9)
       have hb9 := own_step hO8 hgr9 (by (repeat first|exact J0|assumption|(apply J1;assumption)|apply J2|apply J3|apply J4))
       clear hgr9
       go_wp2
       go_roundw
       case rel => exact ⟨n', a', b', _, hA8, hB8, by simp at hn ⊢; omega, by omega, HE2, by simp; omega, hown9, hb9⟩
       case measure => simp only [hL1, hL2, lenOf_sl]; omega
     ·have hpos : 0 < cv := by omega
      have hnb : ¬ bltP (x1, y1, s1) (x2, y2, s2) := fun h => hlt (HNZ.out.1.2 h)
      have hne : ¬ (x1, y1, s1) = (x2, y2, s2) := fun h => hez (HNZ.out.2.2 h)
      have HE : Hid (mergeL K a b = acc ++ ((if K false true then [(x2, y2, s2)] else []) ++ mergeF K n' ((x1, y1, s1) :: a') b')) := by
       unfold Hid
       rw [H.out]
       simp only [mergeF]
       rw [if_neg hnb, if_neg hne]
      have t1 : (cv ≤ 0) = False := eq_false (by omega)
      have t2 : (0 ≤ cv) = True := eq_true (by omega)
      clear hlt hez hpos hnb hne
      go_upto_region 4 with fail
      refine wp_region_ords [0, 1, 2, 3, 4, 5, 6] [] [7, 8] (by kernel_rfl) (by kernel_rfl) (fun d _ _ _ _ h => by cases d <;> exact h) ?_
      simp only [List.map_cons, List.map_nil, List.getD_cons_zero, List.getD_cons_succ]
      repeat (go_big_quiet_step (fail))
      refine wpQuiet_nil ?_
      refine wpMid_nil ?_
      go_wp2_with fail
      refine (hc _).mono ?_
      rintro e w4 ⟨rfl, hb4⟩
      have hbc : Below wo.heap.size wo w4 := by (repeat first|exact J0|assumption|(apply J1;assumption)|apply J2|apply J3|apply J4)
      have hrA4 := hrA0.below hbc
      have hrB4 := hrB0.below hbc
      clear hbb1 hbb2 d10 d11 d12 d20 d21 d22 hc hb4
      obtain ⟨hbb1, d10, d11, d12⟩ := hrA4.barAt (show 0 < ((x1, y1, s1) :: a').length by simp)
      obtain ⟨hbb2, d20, d21, d22⟩ := hrB4.barAt (show 0 < ((x2, y2, s2) :: b').length by simp)
      simp only [List.getElem_cons_zero, Nat.zero_mul, Nat.add_zero] at d10 d11 d12 d20 d21 d22
      go_upto_region 13 with fail
      have hX := (Blk.new w4 77 #[.int .i64 0, .int .i64 0, .int .i64 0]).drew
      refine wp_region_ord (w4.heap.size) [0, 1, 2, 3, 4] [(5, false)] [6] (by kernel_rfl) (by kernel_rfl) (fun d _ _ _ _ h => by cases d <;> exact h) ?_
      simp only [List.map_cons, List.map_nil, List.getD_cons_zero, List.getD_cons_succ]
      repeat (go_big_quiet_step (fail))
      refine wpQuiet_nil ?_
      refine wpMid_run rfl (fun K hK => ?_)
      refine op_store_blk hX _ _ _ rfl rfl rfl rfl (by kernel_rfl) (by kernel_rfl) ?_
      intro w7 hXw7 hcw7
      have hbw7 : Below w4.heap.size w4 w7 := chg_bl (by (repeat first|exact J0|assumption|(apply J1;assumption)|apply J2|apply J3|apply J4)) hcw7 (Nat.le_refl _)
      refine hK _ _ (((Chg.of_below (S := [w4.heap.size]) (bl_drew bl_refl)).trans hcw7).below (by simp) (by first | (simp; done) | (have := Below.size (show Below w4.heap.size w4 w4 by (repeat first|exact J0|assumption|(apply J1;assumption)|apply J2|apply J3|apply J4)); omega))) ?_
      clear hK K hX
      refine wpMid_nil ?_
      obtain ⟨vt2, hvt2⟩ : ∃ X, Value.slice (if c2 = 1 then some ⟨b2, off2, none⟩ else some ⟨b2, off2 + 3, none⟩) (m2 - 1) (c2 - 1) = X := ⟨_, rfl⟩
      have hT2 := sl_tail hrB hml2 hlc2 hcm2
      have hL2 : lenOf vt2 = m2 - 1 := by rw [← hvt2]; rfl
      rw [hvt2] at hT2 ⊢
      clear hvt2
      go_upto_region 14 with fail
      go_cut [53] from 12 to 57 (fun s wx => s = .bool (K false true) ∧ Below w7.heap.size w7 wx)
      case first =>
       clear H HE
       obtain rfl := hg3.out
       all_goals
        go_wp2_with fail
        refine (hg _ _ _).mono ?_
        rintro e w8 ⟨rfl, hb8⟩
        go_wp2_with fail
        go_meet
        case rel => exact ⟨rfl, by (repeat first|exact J0|assumption|(apply J1;assumption)|apply J2|apply J3|apply J4)⟩
      obtain ⟨rfl, hb8⟩ := hcut
      obtain ⟨w8, rfl⟩ : ∃ x, x = wc := ⟨_, rfl⟩
      have hX8 := hXw7.below hb8
      have fX8 := hX8.facts
      have hb80 : Below wo.heap.size wo w8 := by (repeat first|exact J0|assumption|(apply J1;assumption)|apply J2|apply J3|apply J4)
      have hA8 := hA
      have hB8 := hT2
      have hO8 := hO.below hb80
      have hbw8 := bl_then hb80 hbw
      obtain ⟨q, hq⟩ : ∃ q, K false true = q := ⟨_, rfl⟩
      rw [hq] at HE ⊢
      clear hq hX8 hXw7
      cases q
      ·have HE2 : Hid (mergeL K a b = acc ++ mergeF K n' ((x1, y1, s1) :: a') (b')) := by unfold Hid; rw [HE.out]; simp
       go_wp2
       go_roundw
       case rel => exact ⟨n', (x1, y1, s1) :: a', b', acc, hA8, hB8, by simp at hn ⊢; omega, by omega, HE2, by omega, hO8, hbw8⟩
       case measure => simp only [hL2, lenOf_sl]; omega
      ·have HE2 : Hid (mergeL K a b = (acc ++ [(x2, y2, s2)]) ++ mergeF K n' ((x1, y1, s1) :: a') (b')) := by unfold Hid; rw [HE.out]; simp
       go_wp2_with (at_builtin; refine wpList_appB1 hO8 rfl _ _ rfl rfl rfl (by simp) (by omega) hbw8.size ?_; intro v9 w9 hown9 hgr9)
       have hb9 := own_step hO8 hgr9 (by (repeat first|exact J0|assumption|(apply J1;assumption)|apply J2|apply J3|apply J4))
       clear hgr9
       go_wp2
       go_roundw
       case rel => exact ⟨n', (x1, y1, s1) :: a', b', _, hA8, hB8, by simp at hn ⊢; omega, by omega, HE2, by simp; omega, hown9, hb9⟩
       case measure => simp only [hL2, lenOf_sl]; omega
theorem put3_any {va vb : Value} (K : Bool → Bool → Bool) (g : Nat) (hg3 : Hid (g = 81)) (hg : ∀ o t W, Calls Tryz.prog g #[.bool o, .bool t] W (RV W (.bool (K o t)))) (a b : List Bar) (w : World) (ha : SlB w va a) (hb : SlB w vb b) :
    Calls Tryz.prog 80 #[va, vb, .func (.func g) #[] #[]] w (RBE w (putL K a b) (putE K a b)) := by
  have hF : ∀ A c W, Rd ic 1 W A [netE a, netE b] → Calls Tryz.prog 76 #[.slice A 2 c] W (RV W (.int .i64 (twoE a b))) := fun A c W hr => nfirst_any [netE a, netE b] A c W (by simp [maxLen]) hr
  by_cases hE : twoE a b = 0
  · obtain ⟨h1, h2⟩ := firstI_zero hE
    have hok1 := netE_ok h1
    have hok2 := netE_ok h2
    rw [hE] at hF
    have HE := Lib.hid hE
    clear hE
    by_cases hL : 4096 < (mergeL K a b).length
    · have HP : Hid (putL K a b = [] ∧ putE K a b = 5) := by
        have hp : putE K a b = 5 := by unfold putE; rw [if_neg (by rw [HE.out]; simp), if_pos hL]
        unfold Hid putL
        rw [hp]
        exact ⟨rfl, rfl⟩
      have hL' : (4096 < ((mergeL K a b).length : Int)) = True := eq_true (by omega)
      clear hL
      go_enter Tryz.func80, Tryz.ntmps80
      go_wp2_with fail
      refine (nnet_sl a _ ha).mono ?_
      rintro e w1 ⟨rfl, hb1⟩
      go_wp2_with fail
      refine (nnet_sl b _ (hb.below hb1)).mono ?_
      rintro e w2 ⟨rfl, hb2⟩
      go_wp2_with fail
      go_must (refine (hF _ _ _ (Rd.ints2 (by simp) (by go_simp) (by go_simp))).mono ?_)
      rintro e w3 ⟨rfl, hb3⟩
      have hb03 : Below w.heap.size w w3 := by (repeat first|exact J0|assumption|(apply J1;assumption)|apply J2|apply J3|apply J4)
      go_wp2_with fail
      refine (merged3_any K g hg3 hg a b _ (ha.below hb03) (hb.below hb03) hok1.len1 hok2.len1).mono ?_
      rintro e w4 ⟨v4, rfl, hO4, hb4⟩
      obtain ⟨A4, c4, rfl⟩ := hO4.shape
      go_wp2
      go_ret2
      exact ⟨_, by rw [HP.out.2]; rfl, by rw [HP.out.1]; exact Own.nil_, by (repeat first|exact J0|assumption|(apply J1;assumption)|apply J2|apply J3|apply J4)⟩
    · have HP : Hid (putL K a b = mergeL K a b ∧ putE K a b = 0) := by
        have : putE K a b = 0 := by unfold putE; rw [if_neg (by rw [HE.out]; simp), if_neg hL]
        unfold Hid putL
        rw [if_pos this]
        exact ⟨rfl, this⟩
      have hL' : (4096 < ((mergeL K a b).length : Int)) = False := eq_false (by omega)
      clear hL
      go_enter Tryz.func80, Tryz.ntmps80
      go_wp2_with fail
      refine (nnet_sl a _ ha).mono ?_
      rintro e w1 ⟨rfl, hb1⟩
      go_wp2_with fail
      refine (nnet_sl b _ (hb.below hb1)).mono ?_
      rintro e w2 ⟨rfl, hb2⟩
      go_wp2_with fail
      go_must (refine (hF _ _ _ (Rd.ints2 (by simp) (by go_simp) (by go_simp))).mono ?_)
      rintro e w3 ⟨rfl, hb3⟩
      have hb03 : Below w.heap.size w w3 := by (repeat first|exact J0|assumption|(apply J1;assumption)|apply J2|apply J3|apply J4)
      go_wp2_with fail
      refine (merged3_any K g hg3 hg a b _ (ha.below hb03) (hb.below hb03) hok1.len1 hok2.len1).mono ?_
      rintro e w4 ⟨v4, rfl, hO4, hb4⟩
      obtain ⟨A4, c4, rfl⟩ := hO4.shape
      go_wp2
      go_ret2
      exact ⟨_, by rw [HP.out.2]; rfl, by rw [HP.out.1]; exact hO4.base_mono hb03.size, by (repeat first|exact J0|assumption|(apply J1;assumption)|apply J2|apply J3|apply J4)⟩
  · have hE' : (twoE a b != 0) = true := by simpa using hE
    have HP : Hid (putL K a b = [] ∧ putE K a b = twoE a b) := by
      have : putE K a b = twoE a b := by unfold putE; rw [if_pos hE]
      unfold Hid putL
      rw [this, if_neg hE]
      exact ⟨rfl, rfl⟩
    clear hE
    go_enter Tryz.func80, Tryz.ntmps80
    go_wp2_with fail
    refine (nnet_sl a _ ha).mono ?_
    rintro e w1 ⟨rfl, hb1⟩
    go_wp2_with fail
    refine (nnet_sl b _ (hb.below hb1)).mono ?_
    rintro e w2 ⟨rfl, hb2⟩
    go_wp2_with fail
    go_must (refine (hF _ _ _ (Rd.ints2 (by simp) (by go_simp) (by go_simp))).mono ?_)
    rintro e w3 ⟨rfl, hb3⟩
    go_wp2
    go_ret2
    exact ⟨_, by rw [HP.out.2]; rfl, by rw [HP.out.1]; exact Own.nil_, by (repeat first|exact J0|assumption|(apply J1;assumption)|apply J2|apply J3|apply J4)⟩
theorem apiUnion3_any {va vb : Value} (a b : List Bar) (w : World) (ha : SlB w va a) (hb : SlB w vb b) : Calls Tryz.prog 19 #[va, vb] w (RBE w (putL unionK a b) (putE unionK a b)) := by
 go_enter Tryz.func19, Tryz.ntmps19
 go_wp2_with fail
 refine (put3_any unionK _ (Lib.hid rfl) unionK3_any a b _ ha hb).mono ?_
 rintro e w1 ⟨v1, rfl, hO1, hb1⟩
 go_wp2
 go_ret2
 exact ⟨_, rfl, hO1, hb1⟩
end Go.Proofs.YtkkefahobjlagaaGreatDoor

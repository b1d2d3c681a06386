/- The bars of a sheet, of the program, walked. Conditions: small sheets. -/
import Derived.Test.YtpcgeihemkhkjaaGreatDoorS08
import Derived.Test.YtpcgeihemkhkjaaGreatDoorS05
import Derived.Deep.CutRange
namespace Go.Proofs.YtpcgeihemkhkjaaGreatDoor
open Go.RowKit Go.ChangeMaps
set_option maxHeartbeats 4000000
set_option maxRecDepth 100000
attribute [local go_sem] Oper.semAt_some
theorem Z94 {F : Fence} {n : Nat} {ops : Array Oper} {rest : List Oper} {o : Oper} {a : Act} {Q : Exit → Act → World → Prop} {base : Nat} {W : World} {v : Value} {X Y S : Int} {l : List Bar} (hown : OwB base W v l) {g : Nat} (hgd : o.guard = none) (s x : Operand)
  (ho : o.op = .call { callee := .builtin .append, args := #[s, x], argTypes := #[65, 65] })
  (hs : a.eval s = v) (hx : a.eval x = .slice (some ⟨g, 0, none⟩) 1 1) (hg : W.heap.size = g) (hlen : l.length ≤ 1000000) (hbase : base ≤ W.heap.size)
  (h : ∀ v' w', OwB base w' v' (l ++ [(X, Y, S)]) → (W.alloc (.cells #[.int .i64 X, .int .i64 Y, .int .i64 S] 111)).grownBy w' v.ownBlock → wpListIn F n Tryz.prog ops Q rest (a.put o.dst v') w') :
  wpListIn F n Tryz.prog ops Q (o :: rest) a (W.alloc (.cells #[.int .i64 X, .int .i64 Y, .int .i64 S] 111)) := by
 subst hg
 exact Z8a hgd Z3v Z20 Z3z s x ho base v _ l [(X, Y, S)] hs hx (hown.alloc _) (Sl.one_bar W X Y S) (by simp [maxLen]; omega) (by simp; omega) (by simp; omega) h
def sdB (x0 : Int) (c : Nat) (b : Bar) : List Bar := if x0 ≤ b.1 + b.2.2 ∧ b.1 + b.2.2 ≤ x0 + 2 * c then [b] else []
def shT (x0 : Int) (c : Nat) (x y : Int) : Nat → List Bar
 | 0 => []
 | t + 1 => shT x0 c x y t ++ sdB x0 c (x, y, 2 * (t : Int) - 1)
def shI (x0 : Int) (c : Nat) (y : Int) (n : Nat) : Nat → List Bar
 | 0 => []
 | i + 1 => shI x0 c y n i ++ shT x0 c (x0 + (n % 2 : Nat) + 2 * (i : Int)) y 2
def shN (x0 y0 : Int) (c : Nat) : Nat → List Bar
 | 0 => []
 | n + 1 => shN x0 y0 c n ++ shI x0 c (y0 + (n : Int)) n (c + 1 - n % 2)
theorem Z95 (x0 : Int) (c : Nat) (b : Bar) : (sdB x0 c b).length ≤ 1 := by unfold sdB; split <;> simp
theorem Z96 (x0 : Int) (c : Nat) (x y : Int) : ∀ t, (shT x0 c x y t).length ≤ t
 | 0 => Nat.le_refl _
 | t + 1 => by
  have := Z96 x0 c x y t
  have := Z95 x0 c (x, y, 2 * (t : Int) - 1)
  rw [shT, List.length_append]; omega
theorem Z97 (x0 : Int) (c : Nat) (y : Int) (n : Nat) : ∀ i, (shI x0 c y n i).length ≤ 2 * i
 | 0 => Nat.le_refl _
 | i + 1 => by
  have := Z97 x0 c y n i
  have := Z96 x0 c (x0 + (n % 2 : Nat) + 2 * (i : Int)) y 2
  rw [shI, List.length_append]; omega
theorem Z98 (x0 y0 : Int) (c : Nat) : ∀ n, (shN x0 y0 c n).length ≤ n * (2 * (c + 1))
 | 0 => by simp [shN]
 | n + 1 => by
  have := Z98 x0 y0 c n
  have := Z97 x0 c (y0 + (n : Int)) n (c + 1 - n % 2)
  rw [shN, List.length_append, Nat.succ_mul]; omega
theorem Z99 (x y c r : Int) (w : World) : Calls Tryz.prog 105 #[.agg #[.int .i64 x, .int .i64 y], .int .i64 c, .int .i64 r] w fun e w' =>
    e = .returned (.func (.func 153) #[] #[.pointer (some ⟨w.heap.size + 2, 0, none⟩), .pointer (some ⟨w.heap.size, 0, none⟩), .pointer (some ⟨w.heap.size + 1, 0, none⟩)]) ∧
    w' = ((w.alloc (.cells #[.int .i64 x, .int .i64 y] 90)).alloc (.cells #[.int .i64 c] 3)).alloc (.cells #[.int .i64 r] 3) := by
  go_enter Tryz.func105, Tryz.ntmps105
  go_wp2; go_ret; exact ⟨rfl, rfl⟩
@[go_sem] theorem idx2i_0 (w : World) : (Instr.index 119 (.agg #[.int .i64 (-1), .int .i64 1]) (.int .i64 0)).run Tryz.prog w = .ok (.int .i64 (-1)) w := by kernel_rfl
@[go_sem] theorem idx2i_1 (w : World) : (Instr.index 119 (.agg #[.int .i64 (-1), .int .i64 1]) (.int .i64 1)).run Tryz.prog w = .ok (.int .i64 1) w := by kernel_rfl
def encB (b : Bar) : Array Value := #[.agg #[.int .i64 b.1, .int .i64 b.2.1, .int .i64 b.2.2]]
theorem Z9a (nf : Nat) (hn : 1 ≤ nf) (S : List Nat) (B : Nat) (x0 y0 : Int) (c r : Nat) (hc : c ≤ 300) (hr : r ≤ 300) (hx : -200000 ≤ x0 ∧ x0 ≤ 200000) (hy : -200000 ≤ y0 ∧ y0 ≤ 200000) (w : World) (h1 : B ∉ S) (h2 : B + 1 ∉ S)
  (hA : Blk w B 90 #[.int .i64 x0, .int .i64 y0]) (hC : Blk w (B + 1) 3 #[.int .i64 c]) (hR : Blk w (B + 2) 3 #[.int .i64 r]) :
  SeqStopsK Fence.wide nf Tryz.prog 153 #[.pointer (some ⟨B + 2, 0, none⟩), .pointer (some ⟨B, 0, none⟩), .pointer (some ⟨B + 1, 0, none⟩)] encB (Z87 S w.heap.size) (fun ys => ys = shN x0 y0 c r) (fun _ => True) 1000000 w := fun l J Jx W hW hJ _ hY h0 => by
 have hcW : Chg S w W := Chg.of_below hW
 have fR := (hR.below hW).facts
 refine callsIn_of_wp Tryz.func153 rfl trivial ?_ rfl
 simp only [Tryz.ntmps153, List.size_toArray, List.length_cons, List.length_nil, Nat.reduceAdd, Nat.reduceSub, Array.replicate_succ, Array.replicate_zero, List.push_toArray, List.append_toArray, List.nil_append, List.cons_append]
 gi_wp2
 gi_loopw [11] (fun i wr => ∃ n : Nat, n ≤ r ∧ i = .int .i64 n ∧ J (shN x0 y0 c n) wr ∧ Chg S w wr) (fun i _ => r - (intOf i).toNat)
 case atStart => exact ⟨0, Nat.zero_le _, rfl, h0, hcW⟩
 case round =>
  clear fR h0; obtain ⟨n, hn1, rfl, hJn, hcn⟩ := hrel; by_cases hlt : n < r
  ·have fA := (hA.chg hcn h1).facts
   have hpar : n % 2 < 2 := Nat.mod_lt _ (by omega)
   have HD : Hid (shN x0 y0 c (n + 1) = shN x0 y0 c n ++ shI x0 c (y0 + (n : Int)) n (c + 1 - n % 2)) := rfl
   have hl1 := Z98 x0 y0 c n
   have hl2 : n * (2 * (c + 1)) ≤ 300 * 602 := Nat.mul_le_mul (by omega) (by omega)
   have hpre : (shN x0 y0 c n).length ≤ 200000 := by omega
   clear hl1 hl2; obtain ⟨L, hL⟩ : ∃ L, shN x0 y0 c n = L := ⟨_, rfl⟩
   rw [hL] at hJn HD hpre; clear hL; obtain ⟨wn, rfl⟩ : ∃ x, x = wr := ⟨_, rfl⟩
   gi_wp2
   gi_loopw [6] (fun X wr => ∃ i : Nat, i ≤ c + 1 - n % 2 ∧ X = .int .i64 (x0 + ((n % 2 : Nat) : Int) + 2 * (i : Int)) ∧ J (L ++ shI x0 c (y0 + (n : Int)) n i) wr ∧ Chg S w wr) (fun X _ => (x0 + 2 * (c : Int) + 2 - intOf X).toNat)
   case atStart => exact ⟨0, Nat.zero_le _, congrArg (Value.int .i64) (by omega), by simpa [shI] using hJn, hcn⟩
   case round =>
    clear fA hJn hcn; obtain ⟨i, hi, rfl, hJi, hci⟩ := hrel; have HI : Hid (shI x0 c (y0 + (n : Int)) n (i + 1) = shI x0 c (y0 + (n : Int)) n i ++ shT x0 c (x0 + ((n % 2 : Nat) : Int) + 2 * (i : Int)) (y0 + (n : Int)) 2) := rfl
    have hl2 := Z97 x0 c (y0 + (n : Int)) n i
    obtain ⟨X, hX⟩ : ∃ X, x0 + ((n % 2 : Nat) : Int) + 2 * (i : Int) = X := ⟨_, rfl⟩
    rw [hX] at HI ⊢; obtain ⟨Y, hY0⟩ : ∃ Y, y0 + (n : Int) = Y := ⟨_, rfl⟩
    rw [hY0] at HI hJi hl2; have HX := Lib.hid (And.intro hX hY0)
    have fC := (hC.chg hci h2).facts
    have fA := (hA.chg hci h1).facts
    have hb1 : x0 ≤ X := by omega
    obtain ⟨wi, rfl⟩ : ∃ x, x = wr := ⟨_, rfl⟩
    by_cases hXl : X ≤ x0 + 2 * (c : Int)
    ·obtain ⟨M, hM⟩ : ∃ M, L ++ shI x0 c Y n i = M := ⟨_, rfl⟩
     have hMl : M.length ≤ 201000 := by rw [← hM, List.length_append]; omega
     have HM := Lib.hid hM
     rw [hM] at hJi; have hlt2 : i < c + 1 - n % 2 := by omega
     clear hM hX hl2; gi_wp2
     gi_loopw [29] (fun s wr => ∃ t : Nat, t ≤ 2 ∧ s = .int .i64 t ∧ J (M ++ shT x0 c X Y t) wr ∧ Chg S w wr) (fun s _ => 2 - (intOf s).toNat)
     case atStart => exact ⟨0, by omega, rfl, by simpa [shT] using hJi, hci⟩
     case round =>
      clear fA fC hJi hci; obtain ⟨t, ht, rfl, hJt, hct⟩ := hrel; have fC := (hC.chg hct h2).facts
      have fA := (hA.chg hct h1).facts
      have hl3 := Z96 x0 c X Y t
      obtain ⟨wt, rfl⟩ : ∃ x, x = wr := ⟨_, rfl⟩
      obtain rfl | rfl | rfl : t = 0 ∨ t = 1 ∨ t = 2 := by omega
      ·have hX0 := HX.out.1
       have hq2 : X + -1 ≤ x0 + 2 * (c : Int) := by omega
       by_cases hq1 : x0 ≤ X + -1
       ·have hq1' : (x0 ≤ X + -1) = True := by simpa using hq1
        have HT1 : Hid (shT x0 c X Y 1 = shT x0 c X Y 0 ++ [(X, Y, -1)]) := by
         have h0 : sdB x0 c (X, Y, -1) = [(X, Y, -1)] := by unfold sdB; rw [if_pos ⟨hq1, hq2⟩]
         exact congrArg (shT x0 c X Y 0 ++ ·) h0
        have hJ1 := Z86 hJ hJt (Z04 Z03 (.cells #[.int .i64 X, .int .i64 Y, .int .i64 (-1)] 111))
        obtain ⟨fn, tmps, assign, body, hy, hR2⟩ := hY _ (X, Y, -1) _ hJ1 (by rw [List.length_append]; omega)
        have hy' : (Instr.yield l #[.agg #[.int .i64 X, .int .i64 Y, .int .i64 (-1)]]).run Tryz.prog (wt.alloc (.cells #[.int .i64 X, .int .i64 Y, .int .i64 (-1)] 111)) = .ok (.round l fn tmps assign body) (wt.alloc (.cells #[.int .i64 X, .int .i64 Y, .int .i64 (-1)] 111)) := hy
        clear hy hJt; gi_wp2
        refine hR2.mono ?_
        rintro e W3 (⟨rfl, hJ3, hk3⟩ | ⟨rfl, hJx3⟩)
        ·gi_wp2
         go_roundw; case rel => exact ⟨1, by omega, rfl, by rw [HT1.out, ← List.append_assoc]; exact hJ3, (hct.alloc _).keep hk3⟩
         case measure => simp [intOf]
        ·gi_wp2
         refine bodyPost_ret (results_none rfl _ _ _) rfl ?_
         exact ⟨⟨_, rfl⟩, .inr ⟨_, trivial, hJx3⟩⟩
       ·have hq1' : (x0 ≤ X + -1) = False := by simpa using hq1
        have HT1 : Hid (shT x0 c X Y 1 = shT x0 c X Y 0) := by
         have h0 : sdB x0 c (X, Y, -1) = [] := by unfold sdB; rw [if_neg (fun hh => by have := hh.1; have := hh.2; simp only at *; omega)]
         exact (congrArg (shT x0 c X Y 0 ++ ·) h0).trans (List.append_nil _)
        have hJ1 := Z86 hJ hJt (Z04 Z03 (.cells #[.int .i64 X, .int .i64 Y, .int .i64 (-1)] 111))
        clear hJt; gi_wp2_with (refine Z8g (by rfl) (fun _ => trivial) ?_)
        go_roundw; case rel => exact ⟨1, by omega, rfl, by rw [HT1.out]; exact hJ1, hct.alloc _⟩
        case measure => simp [intOf]
      ·have hq1 : x0 ≤ X + 1 := by omega
       by_cases hq2 : X + 1 ≤ x0 + 2 * (c : Int)
       ·have hq2' : (X + 1 ≤ x0 + 2 * (c : Int)) = True := by simpa using hq2
        have HT1 : Hid (shT x0 c X Y 2 = shT x0 c X Y 1 ++ [(X, Y, 1)]) := by
         have h0 : sdB x0 c (X, Y, 1) = [(X, Y, 1)] := by unfold sdB; rw [if_pos ⟨hq1, hq2⟩]
         exact congrArg (shT x0 c X Y 1 ++ ·) h0
        have hJ1 := Z86 hJ hJt (Z04 Z03 (.cells #[.int .i64 X, .int .i64 Y, .int .i64 1] 111))
        obtain ⟨fn, tmps, assign, body, hy, hR2⟩ := hY _ (X, Y, 1) _ hJ1 (by rw [List.length_append]; omega)
        have hy' : (Instr.yield l #[.agg #[.int .i64 X, .int .i64 Y, .int .i64 1]]).run Tryz.prog (wt.alloc (.cells #[.int .i64 X, .int .i64 Y, .int .i64 1] 111)) = .ok (.round l fn tmps assign body) (wt.alloc (.cells #[.int .i64 X, .int .i64 Y, .int .i64 1] 111)) := hy
        clear hy hJt; gi_wp2
        refine hR2.mono ?_
        rintro e W3 (⟨rfl, hJ3, hk3⟩ | ⟨rfl, hJx3⟩)
        ·gi_wp2
         go_roundw; case rel => exact ⟨2, by omega, rfl, by rw [HT1.out, ← List.append_assoc]; exact hJ3, (hct.alloc _).keep hk3⟩
         case measure => simp [intOf]
        ·gi_wp2
         refine bodyPost_ret (results_none rfl _ _ _) rfl ?_
         exact ⟨⟨_, rfl⟩, .inr ⟨_, trivial, hJx3⟩⟩
       ·have hq2' : (X + 1 ≤ x0 + 2 * (c : Int)) = False := by simpa using hq2
        have HT1 : Hid (shT x0 c X Y 2 = shT x0 c X Y 1) := by
         have h0 : sdB x0 c (X, Y, 1) = [] := by unfold sdB; rw [if_neg (fun hh => by have := hh.1; have := hh.2; simp only at *; omega)]
         exact (congrArg (shT x0 c X Y 1 ++ ·) h0).trans (List.append_nil _)
        have hJ1 := Z86 hJ hJt (Z04 Z03 (.cells #[.int .i64 X, .int .i64 Y, .int .i64 1] 111))
        clear hJt; gi_wp2_with (refine Z8g (by rfl) (fun _ => trivial) ?_)
        go_roundw; case rel => exact ⟨2, by omega, rfl, by rw [HT1.out]; exact hJ1, hct.alloc _⟩
        case measure => simp [intOf]
      ·gi_wp2
       go_roundw; case rel => exact ⟨i + 1, by omega, congrArg (Value.int .i64) (by have := HX.out.1; omega), by rw [HX.out.2, HI.out, ← List.append_assoc, HM.out]; exact hJt, hct⟩
       case measure => simp [intOf]; omega
    ·obtain rfl : i = c + 1 - n % 2 := by omega
     clear hX hY0; gi_wp2
     go_roundw; case rel => exact ⟨n + 1, by omega, by go_num, by rw [HD.out, HX.out.2]; exact hJi, hci⟩
     case measure => simp [intOf]; omega
  ·obtain rfl : n = r := by omega
   gi_wp2
   go_end0
   exact ⟨⟨_, rfl⟩, .inl ⟨_, rfl, hJn⟩⟩
end Go.Proofs.YtpcgeihemkhkjaaGreatDoor
namespace Go.Proofs.YtpcgeihemkhkjaaGreatDoor
open Go.RowKit Go.ChangeMaps
set_option maxHeartbeats 4000000
set_option maxRecDepth 100000
theorem Z9b (a b : Bar) : Z1t a.1 a.2.1 a.2.2 b.1 b.2.1 b.2.2 = 0 ↔ a = b := by
 obtain ⟨x, y, s⟩ := a
 obtain ⟨x', y', s'⟩ := b
 simp only [Z1t, cmpI, Z17, Prod.mk.injEq]
 repeat' split
 all_goals first | omega | (constructor <;> intro h <;> omega)
theorem Z9c (a b : Bar) : Z1t a.1 a.2.1 a.2.2 b.1 b.2.1 b.2.2 < 0 ↔ bltP a b := by
 have := Z1v a.1 a.2.1 a.2.2 b.1 b.2.1 b.2.2
 unfold bltP
 cases h : Z1u a.1 a.2.1 a.2.2 b.1 b.2.1 b.2.2
 ·rw [h] at this
  have h2 : 0 ≤ Z1t a.1 a.2.1 a.2.2 b.1 b.2.1 b.2.2 := of_decide_eq_true this
  constructor
  ·intro h3; omega
  ·intro h3; cases h3
 ·rw [h] at this
  have h2 : ¬ 0 ≤ Z1t a.1 a.2.1 a.2.2 b.1 b.2.1 b.2.2 := of_decide_eq_false this
  constructor
  ·intro _; rfl
  ·intro _; omega
def Z9d : Value → Nat
 | .slice _ n _ => n
 | _ => 0
theorem Z9e {o : Oper} {a : Act} {K : Act → World → Prop} {Q : Exit → Act → World → Prop} {w : World} {g : Nat} {t : TypeId} {cs cells : Array Value} (h : Blk w g t cs) (ty : TypeId) (x y : Operand) (ho : o.op = .store ty x y)
  (hx : a.eval x = .pointer (some ⟨g, 0, none⟩)) (hy : a.eval y = .agg cells) (hsz : cells.size = cs.size) (hi : (Tryz.prog.info? ty).map (·.size) = some cells.size) (h1 : cells.all (·.oneCell') = true)
  (hK : ∀ W', Blk W' g t cells → Chg [g] w W' → K (a.put o.dst undef) W') : o.wp Tryz.prog a w K Q := by
 obtain ⟨W', hr, h2, h3⟩ := h.store_ (P := Tryz.prog) ty hsz hi h1
 unfold Oper.wp execOp
 simp only [ho, hx, hy, Instr.storeAt, Instr.sureAddr, Sem.run_bind, Sem.run_pure, Result.andThen_ok, hr]
 exact hK W' h2 h3
theorem Z9f {w W W' : World} {g : Nat} (h : Below w.heap.size w W) (hc : Chg [g] W W') (hg : w.heap.size ≤ g) : Below w.heap.size w W' :=
 ((Chg.of_below (S := [g]) h).trans hc).below (by simp; exact hg) (Nat.le_refl _)
def Z9g (K : Bool → Bool → Bool) : Nat → List Bar → List Bar → List Bar
 | 0, _, _ => []
 | _ + 1, [], [] => []
 | n + 1, x :: a, [] => (if K true false then [x] else []) ++ Z9g K n a []
 | n + 1, [], y :: b => (if K false true then [y] else []) ++ Z9g K n [] b
 | n + 1, x :: a, y :: b =>
  if bltP x y then (if K true false then [x] else []) ++ Z9g K n a (y :: b)
  else if x = y then (if K true true then [y] else []) ++ Z9g K n a b
  else (if K false true then [y] else []) ++ Z9g K n (x :: a) b
def Z9h (K : Bool → Bool → Bool) (a b : List Bar) : List Bar := Z9g K (a.length + b.length) a b
theorem Z9i (A : Option Addr) (n c : Nat) : Z9d (.slice A n c) = n := rfl
theorem Z9j {w : World} {b off c : Nat} {l : List Bar} {x : Bar} {n : Nat} (h : Rd bc 3 w (some ⟨b, off, none⟩) (x :: l)) (hn : (x :: l).length = n) (hlc : n ≤ c) (hc : c ≤ maxLen) :
  SlB w (.slice (if c = 1 then some ⟨b, off, none⟩ else some ⟨b, off + 3, none⟩) (n - 1) (c - 1)) l := by
 subst hn
 refine ⟨_, c - 1, by rw [show (x :: l).length - 1 = l.length by simp], by simp at hlc; omega, by omega, fun i y hy => ?_⟩
 have hlt := (List.getElem?_eq_some_iff.1 hy).1
 obtain ⟨b', off', e', hb, hc2⟩ := h (i + 1) y (by simpa using hy)
 obtain ⟨rfl, rfl⟩ : b = b' ∧ off = off' := by simpa using e'
 rw [if_neg (by simp at hlc; omega)]
 refine ⟨b, off + 3, rfl, hb, fun j u hu => ?_⟩
 have := hc2 j u hu
 rwa [show off + (i + 1) * 3 + j = off + 3 + i * 3 + j by omega] at this
theorem Z9k (o t : Bool) (w : World) : Calls Tryz.prog 149 #[.bool o, .bool t] w (RV w (.bool (o && !t))) := by
 cases o <;> cases t
 all_goals
  go_enter Tryz.func149, Tryz.ntmps149
  go_wp2; go_ret; exact ⟨rfl, by (repeat first|exact J0|assumption|(apply J1;assumption)|apply J2|apply J3|apply J4)⟩
def twoE (a b : List Bar) : Int := Z17 [netE a, netE b]
def putE (K : Bool → Bool → Bool) (a b : List Bar) : Int := if twoE a b ≠ 0 then twoE a b else if 4096 < (Z9h K a b).length then 5 else 0
def putL (K : Bool → Bool → Bool) (a b : List Bar) : List Bar := if putE K a b = 0 then Z9h K a b else []
theorem Z9l {a b : Int} (h : Z17 [a, b] = 0) : a = 0 ∧ b = 0 := by
 unfold Z17 Z17 Z17 at h
 split at h
 ·rename_i h1
  split at h
  ·rename_i h2; exact ⟨h1, h2⟩
  ·rename_i h2; exact absurd h h2
 ·rename_i h1; exact absurd h h1
def Z9m (o t : Bool) : Bool := o && !t
attribute [local go_sem] Oper.semAt_some
theorem Z9n (B : Nat) (x0 y0 : Int) (c r : Nat) (hc : c ≤ 300) (hr : r ≤ 300) (hx : -200000 ≤ x0 ∧ x0 ≤ 200000) (hy : -200000 ≤ y0 ∧ y0 ≤ 200000) (w : World)
  (hA : Blk w B 90 #[.int .i64 x0, .int .i64 y0]) (hC : Blk w (B + 1) 3 #[.int .i64 c]) (hR : Blk w (B + 2) 3 #[.int .i64 r]) :
  Calls Tryz.prog 152 #[.slice none 0 0, .func (.func 153) #[] #[.pointer (some ⟨B + 2, 0, none⟩), .pointer (some ⟨B, 0, none⟩), .pointer (some ⟨B + 1, 0, none⟩)]] w (RB w (shN x0 y0 c r)) := by
 refine (callsIn_wide (n := 6)).1 ?_
 refine callsIn_of_wp_marks Tryz.func152 rfl trivial ?_ rfl
 simp only [Tryz.ntmps152, List.size_toArray, List.length_cons, List.length_nil, Nat.reduceAdd, Nat.reduceSub, Array.replicate_succ, Array.replicate_zero, List.push_toArray, List.append_toArray, List.nil_append, List.cons_append]
 gi_wp2
 have hBx := Blk.new w 65 #[.slice none 0 0]
 have hb1 : Below w.heap.size w (w.alloc (.cells #[.slice none 0 0] 65)) := Z04 Z03 _
 have hsz : (w.alloc (.cells #[.slice none 0 0] 65)).heap.size = w.heap.size + 1 := by simp
 obtain ⟨w1, hw1⟩ : ∃ X, w.alloc (.cells #[.slice none 0 0] 65) = X := ⟨_, rfl⟩
 rw [hw1] at hBx hb1 hsz ⊢
 have hAl := hA.lt
 have hCl := hC.lt
 refine wpIn_rangeFunc_ownH rfl (by omega) (gf := 153) (lb := #[.pointer (some ⟨B + 2, 0, none⟩), .pointer (some ⟨B, 0, none⟩), .pointer (some ⟨B + 1, 0, none⟩)]) rfl trivial (enters_of Tryz.func153 (by kernel_rfl) rfl)
  (Z9a 5 (by omega) [w.heap.size] B x0 y0 c r hc hr hx hy w1 (by simp; omega) (by simp; omega) (hA.below hb1) (hC.below hb1) (hR.below hb1)) Z88 (Z89 (Nat.le_refl _)) (Below.refl _ _) (fun _ => rfl)
  (fun pre W => (∃ u, Blk W w.heap.size 65 #[u] ∧ OwB w1.heap.size W u pre) ∧ Below w.heap.size w W ∧ w1.heap.size ≤ W.heap.size)
  (fun _ _ _ => False)
  (fun _ W W' row hs hg hr => by
   obtain ⟨⟨u, h1, h2⟩, h3, h4⟩ := hs; exact ⟨⟨u, h1.grown hg (Z8b h1 hr), h2.kept hg (Z8c h2 hr)⟩, Z09 hg h3 (fun k e => by have := (hr k e).1; omega), Nat.le_trans h4 hg.size⟩)
  (fun _ _ _ _ _ hs _ _ => hs)
  ⟨⟨_, hBx, Own.nil_⟩, hb1, Nat.le_refl _⟩
  (fun x a' W => ∃ Bk, Blk W Bk 111 #[.int .i64 x.1, .int .i64 x.2.1, .int .i64 x.2.2] ∧ w1.heap.size ≤ Bk ∧ a' = { tmps := #[.slice none 0 0, .func (.func 153) #[] #[.pointer (some ⟨B + 2, 0, none⟩), .pointer (some ⟨B, 0, none⟩), .pointer (some ⟨B + 1, 0, none⟩)], .pointer (some ⟨w.heap.size, 0, none⟩), undef, .slice none 0 0, .pointer (some ⟨Bk, 0, none⟩), .func (.func 153) #[] #[.pointer (some ⟨B + 2, 0, none⟩), .pointer (some ⟨B, 0, none⟩), .pointer (some ⟨B + 1, 0, none⟩)], .agg #[.int .i64 x.1, .int .i64 x.2.1, .int .i64 x.2.2], undef, undef, undef, undef, undef], defers := [] })
  (fun x a' s W W' row hs hg hr => by
   obtain ⟨Bk, hX, hk, rfl⟩ := hs; exact ⟨Bk, hX.grown hg (Z8b hX hr), hk, rfl⟩) ?assign ?body ?done ?stop
 case assign =>
  rintro l pre x W K ⟨⟨u, hu1, hu2⟩, hbw, hs2⟩ hK
  unfold encB; gi_wp2
  have hb2 : Below W.heap.size W (W.alloc (.cells #[.int .i64 x.1, .int .i64 x.2.1, .int .i64 x.2.2] 111)) := Z04 Z03 _
  exact hK _ _ (Z84 hb2) (Z87.of_below hb2 hs2) ⟨⟨u, hu1.below hb2, hu2.below hb2⟩, Z08 hb2 hbw, Nat.le_trans hs2 hb2.size⟩ ⟨W.heap.size, Blk.new W _ _, hs2, rfl⟩
 case body =>
  rintro l pre x a' W _ _ ⟨⟨u, hu1, hu2⟩, hbw, hs2⟩ ⟨Bk, hX, hk, rfl⟩ hlt
  have fk := hX.facts
  have fo := hu1.facts
  gi_wp2_with (gi_at_builtin; refine Z94 hu2 rfl _ _ rfl rfl rfl rfl (by omega) hs2 ?_; intro v3 w3 hu3 hgr3; obtain ⟨A3, c3, rfl⟩ := hu3.shape; have hu13 := (hu1.alloc (.cells #[.int .i64 x.1, .int .i64 x.2.1, .int .i64 x.2.2] 111)).grown hgr3 (hu2.ne_blk hu1 (by decide)); have fo3 := hu13.facts)
  simp only [List.length_append, List.length_cons, List.length_nil, Nat.zero_add] at hu3; have hal : Below W.heap.size W (W.alloc (.cells #[.int .i64 x.1, .int .i64 x.2.1, .int .i64 x.2.2] 111)) := Z04 Z03 _
  have hsz2 : w1.heap.size ≤ (W.alloc (.cells #[.int .i64 x.1, .int .i64 x.2.1, .int .i64 x.2.2] 111)).heap.size := Nat.le_trans hs2 hal.size
  have hbw3 : Below w.heap.size w w3 := Z09 hgr3 (Z08 hal hbw) (fun k e => by have := (hu2.lt k e).1; omega)
  exact ⟨(Z84 hal).trans ((Z8d (hu2.alloc _) hgr3).trans (Z8e hu13 0 _)),
   (Z87.of_below hal hs2).trans ((Z87.of_grown hgr3 hsz2 (fun k e => (hu2.lt k e).1)).trans (Z87.of_set (by simp))),
   ⟨_, hu13.set_ 0 _, hu3.set (Ne.symm (hu3.ne_blk hu13 (by decide))) _⟩, Z07 hbw3 (by simp) _, Nat.le_trans hsz2 (Nat.le_trans hgr3.size (by simp [World.setCell]))⟩
 case done =>
  rintro D' ys W hD rfl ⟨⟨u, hu1, hu2⟩, hbw, hs2⟩ hK
  have fo := hu1.facts
  gi_wp2
  refine ⟨by simp, .inl ⟨_, _, rfl, run_takeDeferred hK, ?_⟩⟩
  exact ⟨_, results_tmp rfl _ _ _, u, rfl, Own.base_mono (ownsRow_putObj hu2 _ hK rfl) (by omega), hbw.trans (belowK_b (w := w) (Nat.le_refl _) W D' _ _ (by omega) hK rfl rfl)⟩
 case stop =>
  rintro D' c pre W _ _ h _
  exact h.elim
theorem Z9o (B : Nat) (x0 y0 : Int) (c r : Nat) (hc : c ≤ 300) (hr : r ≤ 300) (hx : -200000 ≤ x0 ∧ x0 ≤ 200000) (hy : -200000 ≤ y0 ∧ y0 ≤ 200000) (w : World)
  (hA : Blk w B 90 #[.int .i64 x0, .int .i64 y0]) (hC : Blk w (B + 1) 3 #[.int .i64 c]) (hR : Blk w (B + 2) 3 #[.int .i64 r]) :
  Calls Tryz.prog 104 #[.func (.func 153) #[] #[.pointer (some ⟨B + 2, 0, none⟩), .pointer (some ⟨B, 0, none⟩), .pointer (some ⟨B + 1, 0, none⟩)]] w (RB w (shN x0 y0 c r)) := by
 go_enter Tryz.func104, Tryz.ntmps104
 go_wp2_with (go_at_call 152; refine (Z9n B x0 y0 c r hc hr hx hy _ hA hC hR).mono ?_; rintro e w1 ⟨v, rfl, hO, hb⟩)
 go_ret
 exact ⟨v, rfl, hO, hb⟩
def shE1 (x y c r : Int) : Int := Z17 [Z1a x y, Z16 c 1 256, Z16 r 1 256]
def shE2 (x y c r : Int) : Int := Z17 [Z15 (decide (4096 < 2 * c * r)) 5, Z19 (x + 2 * c) (y + r)]
def Z9p (x y c r : Int) : Int := if shE1 x y c r ≠ 0 then shE1 x y c r else shE2 x y c r
def Z9q (x y c r : Int) : List Bar := if Z9p x y c r = 0 then shN x y c.toNat r.toNat else []
theorem Z9r {a b c : Int} (h : Z17 [a, b, c] = 0) : a = 0 ∧ b = 0 ∧ c = 0 := by
 unfold Z17 at h
 split at h
 ·rename_i ha; exact ⟨ha, Z9l h⟩
 ·contradiction
theorem Z9s {n lo hi : Int} (h : Z16 n lo hi = 0) : lo ≤ n ∧ n ≤ hi := by
 unfold Z16 Z15 at h
 split at h
 ·omega
 ·rename_i h2; simp at h2; omega
theorem Z9t (x y c r : Int) (w : World) : Calls Tryz.prog 45 #[.agg #[.int .i64 x, .int .i64 y], .int .i64 c, .int .i64 r] w (RBE w (Z9q x y c r) (Z9p x y c r)) := by
  have hB := Blk.new w 90 #[.int .i64 x, .int .i64 y]
  have fB := hB.facts
  have hF : ∀ A c' W, Rd ic 1 W A [Z1a x y, Z16 c 1 256, Z16 r 1 256] → Calls Tryz.prog 99 #[.slice A 3 c'] W (RV W (.int .i64 (shE1 x y c r))) := fun A c' W hr => Z1m [Z1a x y, Z16 c 1 256, Z16 r 1 256] A c' W (by simp [maxLen]) hr
  by_cases hE : shE1 x y c r = 0
  · obtain ⟨hz1, hz2, hz3⟩ := Z9r hE
    obtain ⟨z1, z2, z3, z4, z5⟩ := Z22 hz1
    obtain ⟨c1, c2⟩ := Z9s hz2
    obtain ⟨r1, r2⟩ := Z9s hz3
    have hE' : (shE1 x y c r != 0) = false := by simp [hE]
    have hF2 : ∀ A c' W, Rd ic 1 W A [Z15 (decide (4096 < 2 * c * r)) 5, Z19 (x + 2 * c) (y + r)] → Calls Tryz.prog 99 #[.slice A 2 c'] W (RV W (.int .i64 (shE2 x y c r))) := fun A c' W hr => Z1m [Z15 (decide (4096 < 2 * c * r)) 5, Z19 (x + 2 * c) (y + r)] A c' W (by simp [maxLen]) hr
    have HE : Hid (Z9p x y c r = shE2 x y c r) := by unfold Hid Z9p; rw [if_neg (by simp [hE])]
    obtain ⟨cn, rfl⟩ : ∃ n : Nat, c = (n : Int) := ⟨c.toNat, by omega⟩
    obtain ⟨rn, rfl⟩ : ∃ n : Nat, r = (n : Int) := ⟨r.toNat, by omega⟩
    have hcn : cn ≤ 256 := by omega
    have hrn : rn ≤ 256 := by omega
    have hm1 : 2 * (cn : Int) * (rn : Int) ≤ 2 * 256 * 256 := by
      have := Nat.mul_le_mul (show 2 * cn ≤ 2 * 256 by omega) hrn
      have h2 : ((2 * cn * rn : Nat) : Int) ≤ ((2 * 256 * 256 : Nat) : Int) := Int.ofNat_le.2 this
      simpa using h2
    have hm0 : 0 ≤ 2 * (cn : Int) * (rn : Int) := Int.mul_nonneg (by omega) (by omega)
    clear hz1 hz2 hz3 hE; by_cases hE2 : shE2 x y cn rn = 0
    · have HS : Hid (Z9p x y cn rn = 0 ∧ Z9q x y cn rn = shN x y cn rn) := by
        have h1 : Z9p x y cn rn = 0 := HE.out.trans hE2
        refine ⟨h1, ?_⟩
        unfold Z9q; rw [if_pos h1, Int.toNat_natCast, Int.toNat_natCast]
      have hE2' : (shE2 x y cn rn != 0) = false := by simp [hE2]
      clear hE2; go_enter Tryz.func45, Tryz.ntmps45
      go_wp2_with (first | (go_at_call 100; refine (Z1p x y _).mono ?_; rintro e w1 ⟨rfl, hb1⟩; (first | replace hB := hB.st0 hb1 | replace hB := hB.st1 hb1 | replace hB := hB.std hb1 | replace hB := hB.std1 hb1 | replace hB := hB.st2 hb1 | replace hB := hB.std2 hb1 | replace hB := hB.st3 hb1); have kB := hB.facts) | (go_at_call 101; refine (Z1l _ _ _ _).mono ?_; rintro e w1 ⟨rfl, hb1⟩; (first | replace hB := hB.st0 hb1 | replace hB := hB.st1 hb1 | replace hB := hB.std hb1 | replace hB := hB.std1 hb1 | replace hB := hB.st2 hb1 | replace hB := hB.std2 hb1 | replace hB := hB.st3 hb1); have kB := hB.facts) | (go_at_call 99; go_must (refine (hF _ _ _ (Rd.ints3 (by simp) (by go_simp) (by go_simp) (by go_simp))).mono ?_); rintro e w3 ⟨rfl, hb3⟩; have hB3 := (hB.alloc (.cells #[.int .i64 (Z1a x y), .int .i64 (Z16 cn 1 256), .int .i64 (Z16 rn 1 256)] 29)).below hb3; have fB3 := hB3.facts))
      refine Z0z [0, 1, 2, 3, 4, 6, 7, 8, 9, 10, 11, 12, 13, 14, 15] [(5, false)] [16, 17, 18, 19] (by kernel_rfl) (by kernel_rfl) (fun d _ _ _ _ h => by cases d <;> exact h) ?_
      simp only [List.map_cons, List.map_nil, List.getD_cons_zero, List.getD_cons_succ]; repeat (go_big_quiet_step (fail))
      refine wpQuiet_nil ?_; refine Z11 rfl (fun K hK => ?_); go_simp; refine (Z1k _ _ _).mono ?_
      rintro e w4 ⟨rfl, hb4⟩; refine hK _ _ (by (repeat first|exact J0|assumption|(apply J1;assumption)|apply J2|apply J3|apply J4)) ?_
      clear hK K; have hB3_w4 := hB3.below (show Below _ _ w4 by (repeat first|exact J0|assumption|(apply J1;assumption)|apply J2|apply J3|apply J4))
      have fhB3_w4 := hB3_w4.facts
      refine Z10 ?_; go_wp2_with (first | (go_at_call 103; refine (Z1n _ _ _).mono ?_; rintro e w5 ⟨rfl, hb5⟩; have hB5 := hB3_w4.below hb5; have fB5 := hB5.facts) | (go_at_call 99; go_must (refine (hF2 _ _ _ (Rd.ints2 (by simp) (by go_simp) (by go_simp))).mono ?_); rintro e w6 ⟨rfl, hb6⟩; have hB6 := (hB5.alloc (.cells #[.int .i64 (Z15 (decide (4096 < 2 * (cn : Int) * (rn : Int))) 5), .int .i64 (Z19 (x + 2 * (cn : Int)) (y + (rn : Int)))] 29)).below hb6; have fB6 := hB6.facts) | (go_at_call 105; refine (Z99 x y cn rn _).mono ?_; rintro e w7 ⟨rfl, rfl⟩) | (go_at_call 104; refine (Z9o w6.heap.size x y cn rn (by omega) (by omega) (by omega) (by omega) _ (((Blk.new w6 _ _).alloc _).alloc _) ((Blk.new1 w6 _ _ _).alloc _) (Blk.new2 w6 _ _ _ _)).mono ?_; rintro e w8 ⟨v8, rfl, hO8, hb8⟩))
      have hbw6 : Below w.heap.size w w6 := by (repeat first|exact J0|assumption|(apply J1;assumption)|apply J2|apply J3|apply J4)
      go_ret2
      exact ⟨_, by rw [HS.out.1]; rfl, by rw [HS.out.2]; exact hO8.base_mono (by have := hbw6.size; simp; omega), by (repeat first|exact J0|assumption|(apply J1;assumption)|apply J2|apply J3|apply J4)⟩
    · have HS : Hid (Z9p x y cn rn = shE2 x y cn rn ∧ Z9q x y cn rn = []) := by
        have h1 : Z9p x y cn rn = shE2 x y cn rn := HE.out
        exact ⟨h1, by unfold Z9q; rw [h1, if_neg hE2]⟩
      have hE2' : (shE2 x y cn rn != 0) = true := by simpa using hE2
      clear hE2; go_enter Tryz.func45, Tryz.ntmps45
      go_wp2_with (first | (go_at_call 100; refine (Z1p x y _).mono ?_; rintro e w1 ⟨rfl, hb1⟩; (first | replace hB := hB.st0 hb1 | replace hB := hB.st1 hb1 | replace hB := hB.std hb1 | replace hB := hB.std1 hb1 | replace hB := hB.st2 hb1 | replace hB := hB.std2 hb1 | replace hB := hB.st3 hb1); have kB := hB.facts) | (go_at_call 101; refine (Z1l _ _ _ _).mono ?_; rintro e w1 ⟨rfl, hb1⟩; (first | replace hB := hB.st0 hb1 | replace hB := hB.st1 hb1 | replace hB := hB.std hb1 | replace hB := hB.std1 hb1 | replace hB := hB.st2 hb1 | replace hB := hB.std2 hb1 | replace hB := hB.st3 hb1); have kB := hB.facts) | (go_at_call 99; go_must (refine (hF _ _ _ (Rd.ints3 (by simp) (by go_simp) (by go_simp) (by go_simp))).mono ?_); rintro e w3 ⟨rfl, hb3⟩; have hB3 := (hB.alloc (.cells #[.int .i64 (Z1a x y), .int .i64 (Z16 cn 1 256), .int .i64 (Z16 rn 1 256)] 29)).below hb3; have fB3 := hB3.facts))
      refine Z0z [0, 1, 2, 3, 4, 6, 7, 8, 9, 10, 11, 12, 13, 14, 15] [(5, false)] [16, 17, 18, 19] (by kernel_rfl) (by kernel_rfl) (fun d _ _ _ _ h => by cases d <;> exact h) ?_
      simp only [List.map_cons, List.map_nil, List.getD_cons_zero, List.getD_cons_succ]; repeat (go_big_quiet_step (fail))
      refine wpQuiet_nil ?_; refine Z11 rfl (fun K hK => ?_); go_simp; refine (Z1k _ _ _).mono ?_
      rintro e w4 ⟨rfl, hb4⟩; refine hK _ _ (by (repeat first|exact J0|assumption|(apply J1;assumption)|apply J2|apply J3|apply J4)) ?_
      clear hK K; have hB3_w4 := hB3.below (show Below _ _ w4 by (repeat first|exact J0|assumption|(apply J1;assumption)|apply J2|apply J3|apply J4))
      have fhB3_w4 := hB3_w4.facts
      refine Z10 ?_; go_wp2_with (first | (go_at_call 103; refine (Z1n _ _ _).mono ?_; rintro e w5 ⟨rfl, hb5⟩; have hB5 := hB3_w4.below hb5; have fB5 := hB5.facts) | (go_at_call 99; go_must (refine (hF2 _ _ _ (Rd.ints2 (by simp) (by go_simp) (by go_simp))).mono ?_); rintro e w6 ⟨rfl, hb6⟩; have hB6 := (hB5.alloc (.cells #[.int .i64 (Z15 (decide (4096 < 2 * (cn : Int) * (rn : Int))) 5), .int .i64 (Z19 (x + 2 * (cn : Int)) (y + (rn : Int)))] 29)).below hb6; have fB6 := hB6.facts))
      go_ret2
      exact ⟨_, by rw [HS.out.1]; rfl, by rw [HS.out.2]; exact Own.nil_, by (repeat first|exact J0|assumption|(apply J1;assumption)|apply J2|apply J3|apply J4)⟩
  · have hE' : (shE1 x y c r != 0) = true := by simpa using hE
    have HS : Hid (Z9p x y c r = shE1 x y c r ∧ Z9q x y c r = []) := by
      have h1 : Z9p x y c r = shE1 x y c r := by unfold Z9p; rw [if_pos hE]
      exact ⟨h1, by unfold Z9q; rw [h1, if_neg hE]⟩
    clear hE; go_enter Tryz.func45, Tryz.ntmps45
    go_wp2_with (first | (go_at_call 100; refine (Z1p x y _).mono ?_; rintro e w1 ⟨rfl, hb1⟩; (first | replace hB := hB.st0 hb1 | replace hB := hB.st1 hb1 | replace hB := hB.std hb1 | replace hB := hB.std1 hb1 | replace hB := hB.st2 hb1 | replace hB := hB.std2 hb1 | replace hB := hB.st3 hb1); have kB := hB.facts) | (go_at_call 101; refine (Z1l _ _ _ _).mono ?_; rintro e w1 ⟨rfl, hb1⟩; (first | replace hB := hB.st0 hb1 | replace hB := hB.st1 hb1 | replace hB := hB.std hb1 | replace hB := hB.std1 hb1 | replace hB := hB.st2 hb1 | replace hB := hB.std2 hb1 | replace hB := hB.st3 hb1); have kB := hB.facts) | (go_at_call 99; go_must (refine (hF _ _ _ (Rd.ints3 (by simp) (by go_simp) (by go_simp) (by go_simp))).mono ?_); rintro e w3 ⟨rfl, hb3⟩))
    go_ret2
    exact ⟨_, by rw [HS.out.1]; rfl, by rw [HS.out.2]; exact Own.nil_, by (repeat first|exact J0|assumption|(apply J1;assumption)|apply J2|apply J3|apply J4)⟩
end Go.Proofs.YtpcgeihemkhkjaaGreatDoor

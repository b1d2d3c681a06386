/- The bars of a sheet, of the program, walked. Conditions: small sheets. -/
import Derived.Test.YtkkefahobjlagaaGreatDoorN12
import Derived.Test.YtkkefahobjlagaaGreatDoorN08
import Derived.Test.YtkkefahobjlagaaGreatDoorN07
import Derived.Deep.CutRange
namespace Go.Proofs.YtkkefahobjlagaaGreatDoor
open Go.RowKit Go.ChangeMaps
set_option maxHeartbeats 4000000
set_option maxRecDepth 100000
attribute [local go_sem] Oper.semAt_some
theorem wpListIn_appB1 {F : Fence} {n : Nat} {ops : Array Oper} {rest : List Oper} {o : Oper} {a : Act} {Q : Exit → Act → World → Prop} {base : Nat} {W : World} {v : Value} {X Y S : Int} {l : List Bar} (hown : OwB base W v l) {g : Nat} (hgd : o.guard = none) (s x : Operand)
  (ho : o.op = .call { callee := .builtin .append, args := #[s, x], argTypes := #[36, 36] })
  (hs : a.eval s = v) (hx : a.eval x = .slice (some ⟨g, 0, none⟩) 1 1) (hg : W.heap.size = g) (hlen : l.length ≤ 1000000) (hbase : base ≤ W.heap.size)
  (h : ∀ v' w', OwB base w' v' (l ++ [(X, Y, S)]) → (W.alloc (.cells #[.int .i64 X, .int .i64 Y, .int .i64 S] 77)).grownBy w' v.ownBlock → wpListIn F n Tryz.prog ops Q rest (a.put o.dst v') w') :
  wpListIn F n Tryz.prog ops Q (o :: rest) a (W.alloc (.cells #[.int .i64 X, .int .i64 Y, .int .i64 S] 77)) := by
 subst hg
 exact wpListIn_app hgd bar_elem bc_len bc_one s x ho base v _ l [(X, Y, S)] hs hx (hown.alloc _) (Sl.one_bar W X Y S) (by simp [maxLen]; omega) (by simp; omega) (by simp; omega) h
def sdB (x0 : Int) (c : Nat) (b : Bar) : List Bar := if x0 ≤ b.1 + b.2.2 ∧ b.1 + b.2.2 ≤ x0 + 2 * c then [b] else []
def shT (x0 : Int) (c : Nat) (x y : Int) : Nat → List Bar
 | 0 => []
 | t + 1 => shT x0 c x y t ++ sdB x0 c (x, y, 2 * (t : Int) - 1)
def shI (x0 : Int) (c : Nat) (y : Int) (n : Nat) : Nat → List Bar
 | 0 => []
 | i + 1 => shI x0 c y n i ++ shT x0 c (x0 + (n % 2 : Nat) + 2 * (i : Int)) y 2
def shN (x0 y0 : Int) (c : Nat) : Nat → List Bar
 | 0 => []
 | n + 1 => shN x0 y0 c n ++ shI x0 c (y0 + (n : Int)) n (c + 1 - n % 2)
theorem sdB_len (x0 : Int) (c : Nat) (b : Bar) : (sdB x0 c b).length ≤ 1 := by unfold sdB; split <;> simp
theorem shT_len (x0 : Int) (c : Nat) (x y : Int) : ∀ t, (shT x0 c x y t).length ≤ t
 | 0 => Nat.le_refl _
 | t + 1 => by
  have := shT_len x0 c x y t
  have := sdB_len x0 c (x, y, 2 * (t : Int) - 1)
  rw [shT, List.length_append]; omega
theorem shI_len (x0 : Int) (c : Nat) (y : Int) (n : Nat) : ∀ i, (shI x0 c y n i).length ≤ 2 * i
 | 0 => Nat.le_refl _
 | i + 1 => by
  have := shI_len x0 c y n i
  have := shT_len x0 c (x0 + (n % 2 : Nat) + 2 * (i : Int)) y 2
  rw [shI, List.length_append]; omega
theorem shN_len (x0 y0 : Int) (c : Nat) : ∀ n, (shN x0 y0 c n).length ≤ n * (2 * (c + 1))
 | 0 => by simp [shN]
 | n + 1 => by
  have := shN_len x0 y0 c n
  have := shI_len x0 c (y0 + (n : Int)) n (c + 1 - n % 2)
  rw [shN, List.length_append, Nat.succ_mul]
  omega
theorem sheet_any (x y c r : Int) (w : World) : Calls Tryz.prog 167 #[.agg #[.int .i64 x, .int .i64 y], .int .i64 c, .int .i64 r] w fun e w' =>
    e = .returned (.func (.func 193) #[] #[.pointer (some ⟨w.heap.size + 2, 0, none⟩), .pointer (some ⟨w.heap.size, 0, none⟩), .pointer (some ⟨w.heap.size + 1, 0, none⟩)]) ∧
    w' = ((w.alloc (.cells #[.int .i64 x, .int .i64 y] 40)).alloc (.cells #[.int .i64 c] 3)).alloc (.cells #[.int .i64 r] 3) := by
  go_enter Tryz.func167, Tryz.ntmps167
  go_wp2
  go_ret
  exact ⟨rfl, rfl⟩
@[go_sem] theorem idx2i_0 (w : World) : (Instr.index 73 (.agg #[.int .i64 (-1), .int .i64 1]) (.int .i64 0)).run Tryz.prog w = .ok (.int .i64 (-1)) w := by kernel_rfl
@[go_sem] theorem idx2i_1 (w : World) : (Instr.index 73 (.agg #[.int .i64 (-1), .int .i64 1]) (.int .i64 1)).run Tryz.prog w = .ok (.int .i64 1) w := by kernel_rfl
def encB (b : Bar) : Array Value := #[.agg #[.int .i64 b.1, .int .i64 b.2.1, .int .i64 b.2.2]]
theorem sheet_stops (nf : Nat) (hn : 1 ≤ nf) (S : List Nat) (B : Nat) (x0 y0 : Int) (c r : Nat) (hc : c ≤ 300) (hr : r ≤ 300) (hx : -200000 ≤ x0 ∧ x0 ≤ 200000) (hy : -200000 ≤ y0 ∧ y0 ≤ 200000) (w : World) (h1 : B ∉ S) (h2 : B + 1 ∉ S)
  (hA : Blk w B 40 #[.int .i64 x0, .int .i64 y0]) (hC : Blk w (B + 1) 3 #[.int .i64 c]) (hR : Blk w (B + 2) 3 #[.int .i64 r]) :
  SeqStopsK Fence.wide nf Tryz.prog 193 #[.pointer (some ⟨B + 2, 0, none⟩), .pointer (some ⟨B, 0, none⟩), .pointer (some ⟨B + 1, 0, none⟩)] encB (KeepB S w.heap.size) (fun ys => ys = shN x0 y0 c r) (fun _ => True) 1000000 w := fun l J Jx W hW hJ _ hY h0 => by
 have hcW : Chg S w W := Chg.of_below hW
 have fR := (hR.below hW).facts
 refine callsIn_of_wp Tryz.func193 rfl trivial ?_ rfl
 simp only [Tryz.ntmps193, List.size_toArray, List.length_cons, List.length_nil, Nat.reduceAdd, Nat.reduceSub, Array.replicate_succ, Array.replicate_zero, List.push_toArray, List.append_toArray, List.nil_append, List.cons_append]
 gi_wp2
 gi_loopw [11] (fun i wr => ∃ n : Nat, n ≤ r ∧ i = .int .i64 n ∧ J (shN x0 y0 c n) wr ∧ Chg S w wr) (fun i _ => r - (intOf i).toNat)
 case atStart => exact ⟨0, Nat.zero_le _, rfl, h0, hcW⟩
 case round =>
  clear fR h0
  obtain ⟨n, hn1, rfl, hJn, hcn⟩ := hrel
  by_cases hlt : n < r
  ·have fA := (hA.chg hcn h1).facts
   have hpar : n % 2 < 2 := Nat.mod_lt _ (by omega)
   have HD : Hid (shN x0 y0 c (n + 1) = shN x0 y0 c n ++ shI x0 c (y0 + (n : Int)) n (c + 1 - n % 2)) := rfl
   have hl1 := shN_len x0 y0 c n
   have hl2 : n * (2 * (c + 1)) ≤ 300 * 602 := Nat.mul_le_mul (by omega) (by omega)
   have hpre : (shN x0 y0 c n).length ≤ 200000 := by omega
   clear hl1 hl2
   obtain ⟨L, hL⟩ : ∃ L, shN x0 y0 c n = L := ⟨_, rfl⟩
   rw [hL] at hJn HD hpre
   clear hL
   obtain ⟨wn, rfl⟩ : ∃ x, x = wr := ⟨_, rfl⟩
   gi_wp2
   gi_loopw [6] (fun X wr => ∃ i : Nat, i ≤ c + 1 - n % 2 ∧ X = .int .i64 (x0 + ((n % 2 : Nat) : Int) + 2 * (i : Int)) ∧ J (L ++ shI x0 c (y0 + (n : Int)) n i) wr ∧ Chg S w wr) (fun X _ => (x0 + 2 * (c : Int) + 2 - intOf X).toNat)
   case atStart => exact ⟨0, Nat.zero_le _, congrArg (Value.int .i64) (by omega), by simpa [shI] using hJn, hcn⟩
   case round =>
    clear fA hJn hcn
    obtain ⟨i, hi, rfl, hJi, hci⟩ := hrel
    have HI : Hid (shI x0 c (y0 + (n : Int)) n (i + 1) = shI x0 c (y0 + (n : Int)) n i ++ shT x0 c (x0 + ((n % 2 : Nat) : Int) + 2 * (i : Int)) (y0 + (n : Int)) 2) := rfl
    have hl2 := shI_len x0 c (y0 + (n : Int)) n i
    obtain ⟨X, hX⟩ : ∃ X, x0 + ((n % 2 : Nat) : Int) + 2 * (i : Int) = X := ⟨_, rfl⟩
    rw [hX] at HI ⊢
    obtain ⟨Y, hY0⟩ : ∃ Y, y0 + (n : Int) = Y := ⟨_, rfl⟩
    rw [hY0] at HI hJi hl2
    have HX := Lib.hid (And.intro hX hY0)
    have fC := (hC.chg hci h2).facts
    have fA := (hA.chg hci h1).facts
    have hb1 : x0 ≤ X := by omega
    obtain ⟨wi, rfl⟩ : ∃ x, x = wr := ⟨_, rfl⟩
    by_cases hXl : X ≤ x0 + 2 * (c : Int)
    ·obtain ⟨M, hM⟩ : ∃ M, L ++ shI x0 c Y n i = M := ⟨_, rfl⟩
     have hMl : M.length ≤ 201000 := by rw [← hM, List.length_append]; omega
     have HM := Lib.hid hM
     rw [hM] at hJi
     have hlt2 : i < c + 1 - n % 2 := by omega
     clear hM hX hl2
     gi_wp2
     gi_loopw [29] (fun s wr => ∃ t : Nat, t ≤ 2 ∧ s = .int .i64 t ∧ J (M ++ shT x0 c X Y t) wr ∧ Chg S w wr) (fun s _ => 2 - (intOf s).toNat)
     case atStart => exact ⟨0, by omega, rfl, by simpa [shT] using hJi, hci⟩
     case round =>
      clear fA fC hJi hci
      obtain ⟨t, ht, rfl, hJt, hct⟩ := hrel
      have fC := (hC.chg hct h2).facts
      have fA := (hA.chg hct h1).facts
      have hl3 := shT_len x0 c X Y t
      obtain ⟨wt, rfl⟩ : ∃ x, x = wr := ⟨_, rfl⟩
      obtain rfl | rfl | rfl : t = 0 ∨ t = 1 ∨ t = 2 := by omega
      ·have hX0 := HX.out.1
       have hq2 : X + -1 ≤ x0 + 2 * (c : Int) := by omega
       by_cases hq1 : x0 ≤ X + -1
       ·have hq1' : (x0 ≤ X + -1) = True := by simpa using hq1
        have HT1 : Hid (shT x0 c X Y 1 = shT x0 c X Y 0 ++ [(X, Y, -1)]) := by
         have h0 : sdB x0 c (X, Y, -1) = [(X, Y, -1)] := by unfold sdB; rw [if_pos ⟨hq1, hq2⟩]
         exact congrArg (shT x0 c X Y 0 ++ ·) h0
        have hJ1 := abides_below hJ hJt (bl_alloc bl_refl (.cells #[.int .i64 X, .int .i64 Y, .int .i64 (-1)] 77))
        obtain ⟨fn, tmps, assign, body, hy, hR2⟩ := hY _ (X, Y, -1) _ hJ1 (by rw [List.length_append]; omega)
        have hy' : (Instr.yield l #[.agg #[.int .i64 X, .int .i64 Y, .int .i64 (-1)]]).run Tryz.prog (wt.alloc (.cells #[.int .i64 X, .int .i64 Y, .int .i64 (-1)] 77)) = .ok (.round l fn tmps assign body) (wt.alloc (.cells #[.int .i64 X, .int .i64 Y, .int .i64 (-1)] 77)) := hy
        clear hy hJt
        gi_wp2
        refine hR2.mono ?_
        rintro e W3 (⟨rfl, hJ3, hk3⟩ | ⟨rfl, hJx3⟩)
        ·gi_wp2
         go_roundw
         case rel => exact ⟨1, by omega, rfl, by rw [HT1.out, ← List.append_assoc]; exact hJ3, (hct.alloc _).keep hk3⟩
         case measure => simp [intOf]
        ·gi_wp2
         refine bodyPost_ret (results_none rfl _ _ _) rfl ?_
         exact ⟨⟨_, rfl⟩, .inr ⟨_, trivial, hJx3⟩⟩
       ·have hq1' : (x0 ≤ X + -1) = False := by simpa using hq1
        have HT1 : Hid (shT x0 c X Y 1 = shT x0 c X Y 0) := by
         have h0 : sdB x0 c (X, Y, -1) = [] := by unfold sdB; rw [if_neg (fun hh => by have := hh.1; have := hh.2; simp only at *; omega)]
         exact (congrArg (shT x0 c X Y 0 ++ ·) h0).trans (List.append_nil _)
        have hJ1 := abides_below hJ hJt (bl_alloc bl_refl (.cells #[.int .i64 X, .int .i64 Y, .int .i64 (-1)] 77))
        clear hJt
        gi_wp2_with (refine wpListIn_pass (by rfl) (fun _ => trivial) ?_)
        go_roundw
        case rel => exact ⟨1, by omega, rfl, by rw [HT1.out]; exact hJ1, hct.alloc _⟩
        case measure => simp [intOf]
      ·have hq1 : x0 ≤ X + 1 := by omega
       by_cases hq2 : X + 1 ≤ x0 + 2 * (c : Int)
       ·have hq2' : (X + 1 ≤ x0 + 2 * (c : Int)) = True := by simpa using hq2
        have HT1 : Hid (shT x0 c X Y 2 = shT x0 c X Y 1 ++ [(X, Y, 1)]) := by
         have h0 : sdB x0 c (X, Y, 1) = [(X, Y, 1)] := by unfold sdB; rw [if_pos ⟨hq1, hq2⟩]
         exact congrArg (shT x0 c X Y 1 ++ ·) h0
        have hJ1 := abides_below hJ hJt (bl_alloc bl_refl (.cells #[.int .i64 X, .int .i64 Y, .int .i64 1] 77))
        obtain ⟨fn, tmps, assign, body, hy, hR2⟩ := hY _ (X, Y, 1) _ hJ1 (by rw [List.length_append]; omega)
        have hy' : (Instr.yield l #[.agg #[.int .i64 X, .int .i64 Y, .int .i64 1]]).run Tryz.prog (wt.alloc (.cells #[.int .i64 X, .int .i64 Y, .int .i64 1] 77)) = .ok (.round l fn tmps assign body) (wt.alloc (.cells #[.int .i64 X, .int .i64 Y, .int .i64 1] 77)) := hy
        clear hy hJt
        gi_wp2
        refine hR2.mono ?_
        rintro e W3 (⟨rfl, hJ3, hk3⟩ | ⟨rfl, hJx3⟩)
        ·gi_wp2
         go_roundw
         case rel => exact ⟨2, by omega, rfl, by rw [HT1.out, ← List.append_assoc]; exact hJ3, (hct.alloc _).keep hk3⟩
         case measure => simp [intOf]
        ·gi_wp2
         refine bodyPost_ret (results_none rfl _ _ _) rfl ?_
         exact ⟨⟨_, rfl⟩, .inr ⟨_, trivial, hJx3⟩⟩
       ·have hq2' : (X + 1 ≤ x0 + 2 * (c : Int)) = False := by simpa using hq2
        have HT1 : Hid (shT x0 c X Y 2 = shT x0 c X Y 1) := by
         have h0 : sdB x0 c (X, Y, 1) = [] := by unfold sdB; rw [if_neg (fun hh => by have := hh.1; have := hh.2; simp only at *; omega)]
         exact (congrArg (shT x0 c X Y 1 ++ ·) h0).trans (List.append_nil _)
        have hJ1 := abides_below hJ hJt (bl_alloc bl_refl (.cells #[.int .i64 X, .int .i64 Y, .int .i64 1] 77))
        clear hJt
        gi_wp2_with (refine wpListIn_pass (by rfl) (fun _ => trivial) ?_)
        go_roundw
        case rel => exact ⟨2, by omega, rfl, by rw [HT1.out]; exact hJ1, hct.alloc _⟩
        case measure => simp [intOf]
      ·gi_wp2
       go_roundw
       case rel => exact ⟨i + 1, by omega, congrArg (Value.int .i64) (by have := HX.out.1; omega), by rw [HX.out.2, HI.out, ← List.append_assoc, HM.out]; exact hJt, hct⟩
       case measure => simp [intOf]; omega
    ·obtain rfl : i = c + 1 - n % 2 := by omega
     clear hX hY0
     gi_wp2
     go_roundw
     case rel => exact ⟨n + 1, by omega, by go_num, by rw [HD.out, HX.out.2]; exact hJi, hci⟩
     case measure => simp [intOf]; omega
  ·obtain rfl : n = r := by omega
   gi_wp2
   go_end0
   exact ⟨⟨_, rfl⟩, .inl ⟨_, rfl, hJn⟩⟩
end Go.Proofs.YtkkefahobjlagaaGreatDoor
namespace Go.Proofs.YtkkefahobjlagaaGreatDoor
open Go.RowKit Go.ChangeMaps
set_option maxHeartbeats 4000000
set_option maxRecDepth 100000
theorem barCmp_zero (a b : Bar) : barCmp a.1 a.2.1 a.2.2 b.1 b.2.1 b.2.2 = 0 ↔ a = b := by
 obtain ⟨x, y, s⟩ := a
 obtain ⟨x', y', s'⟩ := b
 simp only [barCmp, cmpI, firstI, Prod.mk.injEq]
 repeat' split
 all_goals first | omega | (constructor <;> intro h <;> omega)
theorem barCmp_neg (a b : Bar) : barCmp a.1 a.2.1 a.2.2 b.1 b.2.1 b.2.2 < 0 ↔ bltP a b := by
 have := barCmp_lt a.1 a.2.1 a.2.2 b.1 b.2.1 b.2.2
 unfold bltP
 cases h : barLt a.1 a.2.1 a.2.2 b.1 b.2.1 b.2.2
 ·rw [h] at this
  have h2 : 0 ≤ barCmp a.1 a.2.1 a.2.2 b.1 b.2.1 b.2.2 := of_decide_eq_true this
  constructor
  ·intro h3; omega
  ·intro h3; cases h3
 ·rw [h] at this
  have h2 : ¬ 0 ≤ barCmp a.1 a.2.1 a.2.2 b.1 b.2.1 b.2.2 := of_decide_eq_false this
  constructor
  ·intro _; rfl
  ·intro _; omega
theorem search_has {l : List Bar} (hs : l.Pairwise bltP) {a : Nat} {e : Bar} (h1 : ∀ t z, t < a → l[t]? = some z → bltP z e) (h2 : ∀ t z, a ≤ t → l[t]? = some z → ¬ bltP z e) :
  hasb l e = match l[a]? with | some z => decide (z = e) | none => false := by
 unfold hasb
 have key : e ∈ l ↔ l[a]? = some e := by
  constructor
  ·intro h
   obtain ⟨t, ht, he⟩ := List.getElem_of_mem h
   have hg : l[t]? = some e := by rw [List.getElem?_eq_getElem ht, he]
   rcases Nat.lt_trichotomy t a with h3 | h3 | h3
   ·exact absurd (h1 t e h3 hg) (bltP_irrefl e)
   ·rw [← h3]; exact hg
   ·have ha : a < l.length := by omega
    have := List.pairwise_iff_getElem.1 hs a t ha ht h3
    rw [he] at this
    exact absurd this (h2 a _ (Nat.le_refl _) (List.getElem?_eq_getElem ha))
  ·intro h; exact List.mem_of_getElem? h
 have hm : ∀ o : Option Bar, (match o with | some z => decide (z = e) | none => false) = true ↔ o = some e := by intro o; cases o <;> simp
 rw [Bool.eq_iff_iff, decide_eq_true_eq, key]
 exact (hm _).symm
theorem search_any {v : Value} (l : List Bar) (x y s : Int) (w : World) (h : SlB w v l) (hs : l.Pairwise bltP) (hlen : l.length ≤ 100000) :
  Calls Tryz.prog 180 #[v, .agg #[.int .i64 x, .int .i64 y, .int .i64 s], .func (.func 136) #[] #[]] w
   (fun e w' => ∃ i : Nat, e = .returned (.tuple #[.int .i64 i, .bool (hasb l (x, y, s))]) ∧ Below w.heap.size w w') := by
 obtain ⟨A, c, rfl, hlc, hcm, h⟩ := h
 have hB := Blk.new w 77 #[.int .i64 x, .int .i64 y, .int .i64 s]
 have HSO := Lib.hid hs
 clear hs
 go_enter Tryz.func180, Tryz.ntmps180
 go_wp2
 go_loopw [9, 10] (fun i j wr => ∃ a b : Nat, i = .int .i64 a ∧ j = .int .i64 b ∧ a ≤ b ∧ b ≤ l.length ∧ Hid ((∀ t z, t < a → l[t]? = some z → bltP z (x, y, s)) ∧ ∀ t z, b ≤ t → l[t]? = some z → ¬ bltP z (x, y, s)) ∧ Blk wr w.heap.size 77 #[.int .i64 x, .int .i64 y, .int .i64 s] ∧ Below w.heap.size w wr) (fun i j _ => (intOf j).toNat - (intOf i).toNat)
 case atStart => exact ⟨0, l.length, rfl, rfl, Nat.zero_le _, Nat.le_refl _, ⟨fun t z h => by omega, fun t z h hz => by rw [List.getElem?_eq_none h] at hz; cases hz⟩, hB, by (repeat first|exact J0|assumption|(apply J1;assumption)|apply J2|apply J3|apply J4)⟩
 case round =>
  clear hB
  obtain ⟨a, b, rfl, rfl, hab, hbl, H, hBr, hbw⟩ := hrel
  have fB := hBr.facts
  by_cases hlt : a < b
  ·have hmid : (a + b) / 2 < l.length := by omega
   obtain ⟨m, hm⟩ : ∃ m, (a + b) / 2 = m := ⟨_, rfl⟩
   rw [hm] at hmid
   have hr := h.below hbw
   obtain ⟨b3, off3, rfl, hb3, e0, e1, e2⟩ := hr.bar hmid
   obtain ⟨⟨zx, zy, zs⟩, hz⟩ : ∃ z, l[m] = z := ⟨_, rfl⟩
   rw [hz] at e0 e1 e2
   simp only at e0 e1 e2
   have hm' : ((a : Int) + (b : Int)) / 2 = (m : Int) := by omega
   have hzm : l[m]? = some (zx, zy, zs) := by rw [List.getElem?_eq_getElem hmid, hz]
   obtain ⟨cv, hcv⟩ : ∃ q, barCmp zx zy zs x y s = q := ⟨_, rfl⟩
   have hc := fun W => ncompare_any zx zy zs x y s W
   rw [hcv] at hc
   have hn := barCmp_neg (zx, zy, zs) (x, y, s)
   simp only at hn
   rw [hcv] at hn
   have HZ := Lib.hid hzm
   have HN := Lib.hid hn
   clear hm hz hzm hn hcv
   by_cases hneg : cv < 0
   ·have t1 : decide (cv < 0) = true := decide_eq_true hneg
    have hb2 : Hid ((∀ t z, t < m + 1 → l[t]? = some z → bltP z (x, y, s)) ∧ ∀ t z, b ≤ t → l[t]? = some z → ¬ bltP z (x, y, s)) := ⟨fun t z ht hg => by
     by_cases h : t = m
     ·subst h; rw [HZ.out] at hg; cases hg; exact HN.out.1 hneg
     ·obtain ⟨h3, h4⟩ := List.getElem?_eq_some_iff.1 hg
      obtain ⟨h5, h6⟩ := List.getElem?_eq_some_iff.1 HZ.out
      have := List.pairwise_iff_getElem.1 HSO.out t m h3 h5 (by omega)
      rw [h4, h6] at this
      exact bltP_trans this (HN.out.1 hneg), H.out.2⟩
    clear hneg
    go_wp2
    refine wp_region_ords [0, 1, 2, 3, 4, 5] [] [6, 7] (by kernel_rfl) (by kernel_rfl) (fun d _ _ _ _ h => by cases d <;> exact h) ?_
    simp only [List.map_cons, List.map_nil, List.getD_cons_zero, List.getD_cons_succ]
    repeat (go_big_quiet_step (fail))
    refine wpQuiet_nil ?_
    refine wpMid_nil ?_
    go_wp2_with (go_at_call 136; refine (hc _).mono ?_; rintro e w4 ⟨rfl, hb4⟩)
    go_roundw
    case rel => exact ⟨m + 1, b, by go_num, rfl, by omega, hbl, hb2, hBr.below (by (repeat first|exact J0|assumption|(apply J1;assumption)|apply J2|apply J3|apply J4)), by (repeat first|exact J0|assumption|(apply J1;assumption)|apply J2|apply J3|apply J4)⟩
    case measure => simp [intOf]; omega
   ·have t1 : decide (cv < 0) = false := decide_eq_false hneg
    have hb2 : Hid ((∀ t z, t < a → l[t]? = some z → bltP z (x, y, s)) ∧ ∀ t z, m ≤ t → l[t]? = some z → ¬ bltP z (x, y, s)) := ⟨H.out.1, fun t z ht hg hlt => by
     by_cases h : t = m
     ·subst h; rw [HZ.out] at hg; cases hg; exact hneg (HN.out.2 hlt)
     ·obtain ⟨h3, h4⟩ := List.getElem?_eq_some_iff.1 hg
      obtain ⟨h5, h6⟩ := List.getElem?_eq_some_iff.1 HZ.out
      have := List.pairwise_iff_getElem.1 HSO.out m t h5 h3 (by omega)
      rw [h4, h6] at this
      exact hneg (HN.out.2 (bltP_trans this hlt))⟩
    clear hneg
    go_wp2
    refine wp_region_ords [0, 1, 2, 3, 4, 5] [] [6, 7] (by kernel_rfl) (by kernel_rfl) (fun d _ _ _ _ h => by cases d <;> exact h) ?_
    simp only [List.map_cons, List.map_nil, List.getD_cons_zero, List.getD_cons_succ]
    repeat (go_big_quiet_step (fail))
    refine wpQuiet_nil ?_
    refine wpMid_nil ?_
    go_wp2_with (go_at_call 136; refine (hc _).mono ?_; rintro e w4 ⟨rfl, hb4⟩)
    go_roundw
    case rel => exact ⟨a, m, rfl, rfl, by omega, by omega, hb2, hBr.below (by (repeat first|exact J0|assumption|(apply J1;assumption)|apply J2|apply J3|apply J4)), by (repeat first|exact J0|assumption|(apply J1;assumption)|apply J2|apply J3|apply J4)⟩
    case measure => simp [intOf]; omega
  ·obtain rfl : a = b := by omega
   have hsh := search_has HSO.out H.out.1 H.out.2
   clear hlt
   by_cases hal : a < l.length
   ·have hr := h.below hbw
    obtain ⟨b3, off3, rfl, hb3, e0, e1, e2⟩ := hr.bar hal
    obtain ⟨⟨zx, zy, zs⟩, hz⟩ : ∃ z, l[a] = z := ⟨_, rfl⟩
    rw [List.getElem?_eq_getElem hal, hz] at hsh
    rw [hz] at e0 e1 e2
    simp only at e0 e1 e2 hsh
    obtain ⟨cv, hcv⟩ : ∃ q, barCmp zx zy zs x y s = q := ⟨_, rfl⟩
    have hc := fun W => ncompare_any zx zy zs x y s W
    rw [hcv] at hc
    have hn := barCmp_zero (zx, zy, zs) (x, y, s)
    simp only at hn
    rw [hcv] at hn
    obtain ⟨q, hq⟩ : ∃ q, (cv == 0) = q := ⟨_, rfl⟩
    have HS : Hid (hasb l (x, y, s) = q) := by
     unfold Hid
     rw [hsh, ← hq, Bool.eq_iff_iff, decide_eq_true_eq, beq_iff_eq]
     exact hn.symm
    clear hsh hz hn hcv
    cases q
    all_goals
     go_wp2
     refine wp_region_ords [0, 1, 2, 3, 4, 5, 6, 7, 8, 9, 10] [(11, false), (12, true), (13, true), (14, false)] [15] (by kernel_rfl) (by kernel_rfl) (fun d _ _ _ _ h => by cases d <;> exact h) ?_
     simp only [List.map_cons, List.map_nil, List.getD_cons_zero, List.getD_cons_succ]
     repeat (go_big_quiet_step (fail))
     refine wpQuiet_nil ?_
     refine wpMid_run rfl (fun K hK => ?_)
     go_simp
     refine (hc _).mono ?_
     rintro e w4 ⟨rfl, hb4⟩
     refine hK _ _ (by (repeat first|exact J0|assumption|(apply J1;assumption)|apply J2|apply J3|apply J4)) ?_
     clear hK K
     refine wpMid_take rfl ?_
     intro K hK
     go_big_quiet_op
     go_big_quiet_on
     refine wpMid_take rfl ?_
     intro K hK
     go_big_quiet_op
     go_big_quiet_on
     refine wpMid_run rfl (fun K hK => ?_)
     go_simp
     refine hK _ _ (by (repeat first|exact J0|assumption|(apply J1;assumption)|apply J2|apply J3|apply J4)) ?_
     clear hK K
     refine wpMid_nil ?_
     go_wp2
     refine bodyPost_ret (v := .tuple #[.int .i64 a, .bool (hasb l (x, y, s))]) (by rw [HS.out]; simp [results, Tryz.results180, go_sem]) rfl ?_
     exact ⟨a, rfl, by (repeat first|exact J0|assumption|(apply J1;assumption)|apply J2|apply J3|apply J4)⟩
   ·rw [List.getElem?_eq_none (by omega)] at hsh
    have HS : Hid (hasb l (x, y, s) = false) := hsh
    have hlt' : decide ((a : Int) < (l.length : Int)) = false := decide_eq_false (by omega)
    clear hsh
    go_wp2
    refine wp_region_ords [0, 1, 2, 3, 4, 5, 6, 7, 8, 9, 10] [(11, false), (12, true), (13, true), (14, false)] [15] (by kernel_rfl) (by kernel_rfl) (fun d _ _ _ _ h => by cases d <;> exact h) ?_
    simp only [List.map_cons, List.map_nil, List.getD_cons_zero, List.getD_cons_succ]
    repeat (go_big_quiet_step (fail))
    refine wpQuiet_nil ?_
    refine wpMid_skipF (by kernel_rfl) ?_
    intro K hK
    simp only [Act.put, List.setIfInBounds_toArray, List.set_cons_zero, List.set_cons_succ]
    refine hK _ ?_
    clear hK K
    refine wpMid_skipT (by kernel_rfl) ?_
    intro K hK
    simp only [Act.put, List.setIfInBounds_toArray, List.set_cons_zero, List.set_cons_succ]
    refine hK _ ?_
    clear hK K
    refine wpMid_take rfl ?_
    intro K hK
    go_big_quiet_op
    go_big_quiet_on
    refine wpMid_run rfl (fun K hK => ?_)
    go_simp
    refine hK _ _ (by (repeat first|exact J0|assumption|(apply J1;assumption)|apply J2|apply J3|apply J4)) ?_
    clear hK K
    refine wpMid_nil ?_
    go_wp2
    refine bodyPost_ret (v := .tuple #[.int .i64 a, .bool (hasb l (x, y, s))]) (by rw [HS.out]; simp [results, Tryz.results180, go_sem]) rfl ?_
    exact ⟨a, rfl, by (repeat first|exact J0|assumption|(apply J1;assumption)|apply J2|apply J3|apply J4)⟩
theorem nhas_any {v : Value} (l : List Bar) (x y s : Int) (w : World) (h : SlB w v l) (hs : l.Pairwise bltP) (hlen : l.length ≤ 100000) :
  Calls Tryz.prog 150 #[v, .agg #[.int .i64 x, .int .i64 y, .int .i64 s]] w (RV w (.bool (hasb l (x, y, s)))) := by
 have hB := Blk.new w 77 #[.int .i64 x, .int .i64 y, .int .i64 s]
 have h2 := h.alloc (.cells #[.int .i64 x, .int .i64 y, .int .i64 s] 77)
 have fB := hB.facts
 go_enter Tryz.func150, Tryz.ntmps150
 go_wp2_with (go_at_call 180; refine (search_any l _ _ _ _ h2 hs hlen).mono ?_; rintro e w1 ⟨i, rfl, hb1⟩)
 go_ret
 exact ⟨rfl, by (repeat first|exact J0|assumption|(apply J1;assumption)|apply J2|apply J3|apply J4)⟩
def lenOf : Value → Nat
 | .slice _ n _ => n
 | _ => 0
theorem op_store_blk {o : Oper} {a : Act} {K : Act → World → Prop} {Q : Exit → Act → World → Prop} {w : World} {g : Nat} {t : TypeId} {cs cells : Array Value} (h : Blk w g t cs) (ty : TypeId) (x y : Operand) (ho : o.op = .store ty x y)
  (hx : a.eval x = .pointer (some ⟨g, 0, none⟩)) (hy : a.eval y = .agg cells) (hsz : cells.size = cs.size) (hi : (Tryz.prog.info? ty).map (·.size) = some cells.size) (h1 : cells.all (·.oneCell') = true)
  (hK : ∀ W', Blk W' g t cells → Chg [g] w W' → K (a.put o.dst undef) W') : o.wp Tryz.prog a w K Q := by
 obtain ⟨W', hr, h2, h3⟩ := h.store_ (P := Tryz.prog) ty hsz hi h1
 unfold Oper.wp execOp
 simp only [ho, hx, hy, Instr.storeAt, Instr.sureAddr, Sem.run_bind, Sem.run_pure, Result.andThen_ok, hr]
 exact hK W' h2 h3
theorem chg_bl {w W W' : World} {g : Nat} (h : Below w.heap.size w W) (hc : Chg [g] W W') (hg : w.heap.size ≤ g) : Below w.heap.size w W' :=
 ((Chg.of_below (S := [g]) h).trans hc).below (by simp; exact hg) (Nat.le_refl _)
def mergeF (K : Bool → Bool → Bool) : Nat → List Bar → List Bar → List Bar
 | 0, _, _ => []
 | _ + 1, [], [] => []
 | n + 1, x :: a, [] => (if K true false then [x] else []) ++ mergeF K n a []
 | n + 1, [], y :: b => (if K false true then [y] else []) ++ mergeF K n [] b
 | n + 1, x :: a, y :: b =>
  if bltP x y then (if K true false then [x] else []) ++ mergeF K n a (y :: b)
  else if x = y then (if K true true then [y] else []) ++ mergeF K n a b
  else (if K false true then [y] else []) ++ mergeF K n (x :: a) b
def mergeL (K : Bool → Bool → Bool) (a b : List Bar) : List Bar := mergeF K (a.length + b.length) a b
theorem lenOf_sl (A : Option Addr) (n c : Nat) : lenOf (.slice A n c) = n := rfl
theorem sl_tail {w : World} {b off c : Nat} {l : List Bar} {x : Bar} {n : Nat} (h : Rd bc 3 w (some ⟨b, off, none⟩) (x :: l)) (hn : (x :: l).length = n) (hlc : n ≤ c) (hc : c ≤ maxLen) :
  SlB w (.slice (if c = 1 then some ⟨b, off, none⟩ else some ⟨b, off + 3, none⟩) (n - 1) (c - 1)) l := by
 subst hn
 refine ⟨_, c - 1, by rw [show (x :: l).length - 1 = l.length by simp], by simp at hlc; omega, by omega, fun i y hy => ?_⟩
 have hlt := (List.getElem?_eq_some_iff.1 hy).1
 obtain ⟨b', off', e', hb, hc2⟩ := h (i + 1) y (by simpa using hy)
 obtain ⟨rfl, rfl⟩ : b = b' ∧ off = off' := by simpa using e'
 rw [if_neg (by simp at hlc; omega)]
 refine ⟨b, off + 3, rfl, hb, fun j u hu => ?_⟩
 have := hc2 j u hu
 rwa [show off + (i + 1) * 3 + j = off + 3 + i * 3 + j by omega] at this
theorem minusK_any (o t : Bool) (w : World) : Calls Tryz.prog 168 #[.bool o, .bool t] w (RV w (.bool (o && !t))) := by
 cases o <;> cases t
 all_goals
  go_enter Tryz.func168, Tryz.ntmps168
  go_wp2
  go_ret
  exact ⟨rfl, by (repeat first|exact J0|assumption|(apply J1;assumption)|apply J2|apply J3|apply J4)⟩
def twoE (a b : List Bar) : Int := firstI [netE a, netE b]
def putE (K : Bool → Bool → Bool) (a b : List Bar) : Int := if twoE a b ≠ 0 then twoE a b else if 4096 < (mergeL K a b).length then 5 else 0
def putL (K : Bool → Bool → Bool) (a b : List Bar) : List Bar := if putE K a b = 0 then mergeL K a b else []
theorem firstI_zero {a b : Int} (h : firstI [a, b] = 0) : a = 0 ∧ b = 0 := by
 unfold firstI firstI firstI at h
 split at h
 ·rename_i h1
  split at h
  ·rename_i h2; exact ⟨h1, h2⟩
  ·rename_i h2; exact absurd h h2
 ·rename_i h1; exact absurd h h1
def minusK (o t : Bool) : Bool := o && !t
end Go.Proofs.YtkkefahobjlagaaGreatDoor

/- The letters of a side: the iterator, walked. Conditions: bounds. -/
import Derived.Test.YtpcgeihemkhkjaaGreatDoorS08
import Derived.Test.YtpcgeihemkhkjaaGreatDoorS09
import Derived.Sort.CutIn
import Derived.Test.YtpcgeihemkhkjaaGreatDoorS06
import Derived.Lib.AtoiAllCases
import Derived.Lib.Strings
import Derived.Lib.SplitLaws
import Derived.Test.YtpcgeihemkhkjaaGreatDoorS05
import Derived.Maps.AppendAt
namespace Go.Proofs.YtpcgeihemkhkjaaGreatDoor
open Go.RowKit Go.ChangeMaps
set_option maxHeartbeats 4000000
set_option maxRecDepth 100000
attribute [local go_sem] Oper.semAt_some
def Z9u (Q : Exit → Act → World → Prop) : Exit → Act → World → Prop
 | .panic _, _, _ => False
 | e, a, w => Q e a w
theorem Z9v {F : Fence} {n : Nat} {P : Program} {c : Code} {Q : Exit → Act → World → Prop} {a : Act} {w : World} (h : c.wpIn F n P (Z9u Q) a w) : c.wpIn F n P Q a w :=
 Code.wpIn_mono (Q := Z9u Q) (fun e a w h => by cases e <;> first | exact h | exact False.elim h) h
theorem Z9w {P : Program} {F : Fence} {n : Nat} {op : Oper} {a : Act} {K : Act → World → Prop} {Q : Exit → Act → World → Prop} {w : World} {g : Nat} {t : TypeId} {cs cells : Array Value} (h : Blk w g t cs) (ty : TypeId) (x y : Operand) (ho : op.op = .store ty x y)
  (hx : a.eval x = .pointer (some ⟨g, 0, none⟩)) (hy : a.eval y = .agg cells) (hsz : cells.size = cs.size) (hi : (P.info? ty).map (·.size) = some cells.size) (h1 : cells.all (·.oneCell') = true)
  (hK : ∀ W', Blk W' g t cells → Chg [g] w W' → K (a.put op.dst undef) W') : op.wpIn F n P a w K Q := by
 obtain ⟨W', hr, h2, h3⟩ := h.store_ (P := P) ty hsz hi h1
 unfold Oper.wpIn
 refine ⟨by simp [Oper.about, ho], ?_⟩
 rw [Oper.semAt_plain F _ _ (by rw [ho]; intro c hc'; cases hc')]
 simp only [execOp, ho, hx, hy, Instr.storeAt, Instr.sureAddr, Sem.run_bind, Sem.run_pure, Result.andThen_ok, hr]
 exact hK W' h2 h3
theorem Z9x {P : Program} {F : Fence} {n : Nat} {ops : Array Oper} {rest : List Oper} {op : Oper} {a : Act} {Q : Exit → Act → World → Prop} {w : World} {g : Nat} {t : TypeId} {cs cells : Array Value} (h : Blk w g t cs) (hgd : op.guard = none) (ty : TypeId) (x y : Operand) (ho : op.op = .store ty x y)
  (hx : a.eval x = .pointer (some ⟨g, 0, none⟩)) (hy : a.eval y = .agg cells) (hsz : cells.size = cs.size) (hi : (P.info? ty).map (·.size) = some cells.size) (h1 : cells.all (·.oneCell') = true)
  (hK : ∀ W', Blk W' g t cells → Chg [g] w W' → wpListIn F n P ops Q rest (a.put op.dst undef) W') : wpListIn F n P ops Q (op :: rest) a w :=
 wpListIn_plain hgd fun _ hK' => Z9w h ty x y ho hx hy hsz hi h1 fun W' h2 h3 => hK' _ _ (hK W' h2 h3)
structure Z9y (T : TypeId) (S : List Nat) (n₀ : Nat) (A B : World) : Prop where
 kb : Z87 S n₀ A B
 ty : ∀ g cs, Blk A g T cs → Blk B g T cs
section
variable {T : TypeId} {S : List Nat} {n₀ : Nat} {A B C w : World}
theorem Z9y.trans (h : Z9y T S n₀ A B) (k : Z9y T S n₀ B C) : Z9y T S n₀ A C := ⟨h.kb.trans k.kb, fun g cs hB => k.ty g cs (h.ty g cs hB)⟩
theorem Z9z (h : Z9y T S n₀ A B) (k : Z9y T S n₀ B C) : Z9y T S n₀ A C := h.trans k
theorem Z9y.of_below (h : Below A.heap.size A B) (hn : n₀ ≤ A.heap.size) : Z9y T S n₀ A B := ⟨Z87.of_below h hn, fun _ _ hB => hB.below h⟩
theorem Z9y.of_grown {α : Type} {enc : α → List Value} {sz base : Nat} {e : TypeId} {v : Value} {l : List α} (ho : Own enc sz base e A v l) (he : e ≠ T) (h : A.grownBy B v.ownBlock) (hn : n₀ ≤ A.heap.size) (hr : ∀ k, v.ownBlock = some k → n₀ ≤ k) : Z9y T S n₀ A B :=
 ⟨Z87.of_grown h hn hr, fun _ _ hB => hB.grown h (ho.ne_blk hB (Ne.symm he))⟩
theorem Z9y.of_set {g i : Nat} {u : Value} {t : TypeId} {cs : Array Value} (hg : g ∈ S) (hB : Blk A g t cs) (ht : t ≠ T) : Z9y T S n₀ A (A.setCell ⟨g, i, none⟩ u) :=
 ⟨Z87.of_set hg, fun g' cs' h' => h'.far (p := ⟨g, i, none⟩) (by
  rintro rfl
  unfold Blk at hB h'; rw [hB] at h'; exact ht (by injection (Option.some.inj h'))) u⟩
theorem Z9y.of_chg {g : Nat} {t : TypeId} {cs : Array Value} (hc : Chg [g] A B) (hg : g ∈ S) (hB : Blk A g t cs) (ht : t ≠ T) (hn : n₀ ≤ A.heap.size) : Z9y T S n₀ A B :=
 ⟨Z87.of_chg (hc.mono (by simpa using hg)) hn, fun g' cs' h' => h'.chg hc (by
  simp only [List.mem_singleton]; rintro rfl
  unfold Blk at hB h'; rw [hB] at h'; exact ht (by injection (Option.some.inj h')))⟩
theorem Za0 (hn : n₀ ≤ w.heap.size) (W : World) (l : Nat) (o o' : Obj) (hl : w.heap.size ≤ l) (h : W.heap[l]? = some o) (h1 : o.isCells = false) (h2 : o.isWalk = false) : Z9y T S n₀ W (W.putObj l o') :=
 ⟨Z89 hn W l o o' hl h h1 h2, fun g cs hB => hB.grown (grownBy_putObj' W l o') (fun e => by
  have e' : g = l := by simpa using e
  unfold Blk at hB; rw [e', h] at hB; cases hB
  cases h1)⟩
end
theorem Rd.keep {α : Type} {enc : α → List Value} {sz : Nat} {S : List Nat} {n₀ : Nat} {w w' : World} {A : Option Addr} {l : List α} (h : Rd enc sz w A l) (hc : Z87 S n₀ w w') (hS : ∀ b off, A = some ⟨b, off, none⟩ → 0 < l.length → b < n₀ ∧ b ∉ S) : Rd enc sz w' A l := fun i x hx => by
 obtain ⟨b, off, e, hlt, hcell⟩ := h i x hx
 refine ⟨b, off, e, Nat.lt_of_lt_of_le hlt hc.size, fun j u hu => ?_⟩
 have h1 := hcell j u hu
 have hpos : 0 < l.length := by have := (List.getElem?_eq_some_iff.1 hx).1; omega
 have h2 := hc.block b (hS b off e hpos).1 (hS b off e hpos).2
 unfold World.cell? at h1 ⊢
 simp only at h1 ⊢
 rw [h2]
 exact h1
theorem Za1 (A : Option Addr) (n c : Nat) (w : World) : Calls Tryz.prog 211 #[.slice A n c] w fun e w' =>
    e = .returned (.func (.func 239) #[] #[.pointer (some ⟨w.heap.size, 0, none⟩)]) ∧ w' = w.alloc (.cells #[.slice A n c] 95) := by
  go_enter Tryz.func211, Tryz.ntmps211
  go_wp2; go_ret; exact ⟨rfl, rfl⟩
def encY (x : Stp) : Array Value := #[.agg #[.int .u8 x.1.toNat, .bool x.2]]
theorem Za2 {e : Edg} {i : Nat} (h : i < e.1.length) : (Z2e e).take (i + 1) = (Z2e e).take i ++ [(e.1[i], e.2.2)] := by
 rw [List.take_succ_eq_append_getElem (by rw [Z2f]; exact h)]
 congr 1
 simp [Z2e]
theorem Za3 (nf : Nat) (hn : 1 ≤ nf) (S : List Nat) (n₀ : Nat) (B : Nat) (A : Option Addr) (c : Nat) (l : List Edg) (hlen : (stpL l).length ≤ 100000) (hl : l.length ≤ 100000) (hok : ∀ e ∈ l, 0 ≤ e.2.1 ∧ e.2.1 ≤ 64 ∧ e.1.length ≤ 64) (w : World) (hS : ∀ b off, A = some ⟨b, off, none⟩ → 0 < l.length → b < n₀ ∧ b ∉ S)
    (hA : Blk w B 95 #[.slice A l.length c]) (hr : Rd ec 3 w A l) :
    SeqStopsK Fence.wide nf Tryz.prog 239 #[.pointer (some ⟨B, 0, none⟩)] encY (Z9y 133 S n₀) (fun ys => ys = stpL l) (fun _ => True) 1000000 w := fun y J Jx W hW hJ _ hY h0 => by
  have hcW : Rd ec 3 W A l := hr.below hW
  have fA := (hA.below hW).facts
  have HOK := Lib.hid hok
  clear hok; refine callsIn_of_wp Tryz.func239 rfl trivial ?_ rfl
  simp only [Tryz.ntmps239, List.size_toArray, List.length_cons, List.length_nil, Nat.reduceAdd, Nat.reduceSub, Array.replicate_succ, Array.replicate_zero, List.push_toArray, List.append_toArray, List.nil_append, List.cons_append]; gi_wp2
  gi_loopw [8] (fun i wr => ∃ k : Nat, k ≤ l.length ∧ i = .int .i64 k ∧ J (stpL (l.take k)) wr ∧ Rd ec 3 wr A l) (fun i _ => l.length - (intOf i).toNat)
  case atStart => exact ⟨0, Nat.zero_le _, rfl, h0, hcW⟩
  case round =>
    clear fA h0; obtain ⟨k, hk, rfl, hJk, hck⟩ := hrel; obtain ⟨wk, rfl⟩ : ∃ x, x = wr := ⟨_, rfl⟩
    by_cases hlt : k < l.length
    · obtain ⟨b, off, rfl, hb, e0, e1, e2⟩ := hck.edge hlt
      have HT := Lib.hid (Z2k hlt)
      have HO := HOK.out _ (List.getElem_mem hlt)
      have hpre : (stpL (l.take k)).length + (edgS l[k]).length ≤ 100000 := by
        have := congrArg List.length HT.out
        have h2 : (stpL (l.take (k + 1))).length ≤ (stpL l).length := by
          have : stpL l = stpL (l.take (k + 1)) ++ stpL (l.drop (k + 1)) := by rw [← Z2j, List.take_append_drop]
          rw [this, List.length_append]; omega
        rw [List.length_append] at this; omega
      obtain ⟨⟨s, t, o⟩, hx⟩ : ∃ z, l[k] = z := ⟨_, rfl⟩
      rw [hx] at e0 e1 e2 HT HO hpre; simp only at e0 e1 e2 HO
      clear hx; obtain ⟨L, hL⟩ : ∃ L, stpL (l.take k) = L := ⟨_, rfl⟩
      rw [hL] at hJk HT hpre; clear hL; obtain ⟨tn, rfl⟩ : ∃ tn : Nat, t = tn := ⟨t.toNat, by omega⟩
      have hen : edgS (s, (tn : Int), o) = timS (s, (tn : Int), o) tn := by unfold edgS; rw [Int.toNat_natCast]
      rw [hen] at HT hpre; rw [Z2g] at hpre; have HE := Blk.new wk 133 #[.string ⟨s.toArray⟩, .int .i64 tn, .bool o]
      have hJa := Z86 hJ hJk (Z04 Z03 (.cells #[.string ⟨s.toArray⟩, .int .i64 tn, .bool o] 133))
      have hca := hck.alloc (.cells #[.string ⟨s.toArray⟩, .int .i64 tn, .bool o] 133)
      have fE := HE.facts
      gi_upto_region 4 with fail
      obtain ⟨wa, hwa⟩ : ∃ X, wk.alloc (.cells #[.string ⟨s.toArray⟩, .int .i64 tn, .bool o] 133) = X := ⟨_, rfl⟩
      obtain ⟨g4, hg4⟩ : ∃ X, wk.heap.size = X := ⟨_, rfl⟩
      rw [hg4] at HE; rw [hwa] at HE hJa hca; rw [hwa, hg4]; clear hwa hg4 fE hJk hck hb e0 e1 e2; obtain ⟨e, he⟩ : ∃ e : Edg, (s, (tn : Int), o) = e := ⟨_, rfl⟩
      have hel : e.1.length = s.length := by rw [← he]
      have HWT : Hid (∀ i (h : i < s.length), (Z2e e).take (i + 1) = (Z2e e).take i ++ [(s[i], o)]) := by
        intro i h; have := Za2 (e := e) (i := i) (by rw [hel]; exact h)
        rw [this]; subst he; rfl
      rw [he] at HT; have HEL := Lib.hid hel
      clear he hel hen; have hsl : s.length ≤ 64 := HO.2.2
      have htn : tn ≤ 64 := by omega
      gi_loopw [14] (fun i wr => ∃ t' : Nat, t' ≤ tn ∧ i = .int .i64 t' ∧ J (L ++ timS e t') wr ∧ Rd ec 3 wr (some ⟨b, off, none⟩) l ∧ Blk wr g4 133 #[.string ⟨s.toArray⟩, .int .i64 tn, .bool o]) (fun i _ => tn - (intOf i).toNat)
      case atStart => exact ⟨0, Nat.zero_le _, rfl, by simpa [timS] using hJa, hca, HE⟩
      case round =>
        clear hJa hca HE; obtain ⟨t', ht', rfl, hJt, hct, hEt⟩ := hrel; obtain ⟨wt, rfl⟩ : ∃ x, x = wr := ⟨_, rfl⟩
        have fE := hEt.facts
        by_cases hlt2 : t' < tn
        · have hlen3 : (L ++ timS e t').length + s.length ≤ 100000 := by
            rw [List.length_append, Z2g, HEL.out]; have : (t' + 1) * s.length ≤ tn * s.length := Nat.mul_le_mul_right _ hlt2
            rw [Nat.succ_mul] at this; omega
          have HTT : Hid (L ++ timS e (t' + 1) = (L ++ timS e t') ++ Z2e e) := by unfold Hid; rw [timS, List.append_assoc]
          obtain ⟨M, hM⟩ : ∃ M, L ++ timS e t' = M := ⟨_, rfl⟩
          rw [hM] at hJt hlen3 HTT; clear hM; have hszs : (({ data := s.toArray } : ByteArray)).size = s.length := rfl
          gi_upto_region 6 with fail
          gi_loopw [19] (fun i wr => ∃ j : Nat, j ≤ s.length ∧ i = .int .i64 j ∧ J (M ++ (Z2e e).take j) wr ∧ Rd ec 3 wr (some ⟨b, off, none⟩) l ∧ Blk wr g4 133 #[.string ⟨s.toArray⟩, .int .i64 tn, .bool o]) (fun i _ => s.length - (intOf i).toNat)
          case atStart => exact ⟨0, Nat.zero_le _, rfl, by simpa using hJt, hct, hEt⟩
          case round =>
            clear hJt hct hEt fE; obtain ⟨j, hj, rfl, hJj, hcj, hEj⟩ := hrel; obtain ⟨wj, rfl⟩ : ∃ x, x = wr := ⟨_, rfl⟩
            have fE := hEj.facts
            by_cases hlt3 : j < s.length
            · have HJ := Lib.hid (HWT.out j hlt3)
              obtain ⟨x, hx⟩ : ∃ x, s[j] = x := ⟨_, rfl⟩
              rw [hx] at HJ; have hx2 : ((({ data := s.toArray } : ByteArray)[j]'hlt3).toNat : Int) = x.toNat := by rw [← hx]; rfl
              have hJ1 := Z86 hJ hJj (show Below wj.heap.size wj wj.drew from Z05 Z03)
              obtain ⟨fn, tmps, assign, body, hy, hR2⟩ := hY _ (x, o) _ hJ1 (by rw [List.length_append]; have := List.length_take_le j (Z2e e); have h9 := Z2f e; have h8 := HEL.out; omega)
              have hy' : (Instr.yield y #[.agg #[.int .u8 x.toNat, .bool o]]).run Tryz.prog wj.drew = .ok (.round y fn tmps assign body) wj.drew := hy
              clear hy hJj hx; gi_upto_region 8 with fail
              refine Z81 [0, 1, 2, 3, 4, 5, 6, 7] [] [8, 9] (fun _ => trivial) (by kernel_rfl) (by kernel_rfl) (by kernel_rfl) (fun d _ _ _ _ h => by cases d <;> exact h) ?_
              simp only [List.map_cons, List.map_nil, List.getD_cons_zero, List.getD_cons_succ]; repeat (go_big_quiet_step (fail))
              refine wpQuiet_nil ?_; refine Z82 ?_; gi_wp2
              refine hR2.mono ?_
              rintro e W3 (⟨rfl, hJ3, hk3⟩ | ⟨rfl, hJx3⟩)
              · gi_wp2
                go_roundw; case rel => exact ⟨j + 1, by omega, by go_num, by rw [HJ.out, ← List.append_assoc]; exact hJ3, hcj.drew.keep hk3.kb hS, hk3.ty _ _ hEj.drew⟩
                case measure => simp [intOf]; omega
              · gi_wp2
                refine bodyPost_ret (results_none rfl _ _ _) rfl ?_
                exact ⟨⟨_, rfl⟩, .inr ⟨_, trivial, hJx3⟩⟩
            · obtain rfl : j = s.length := by omega
              gi_wp2
              go_roundw; case rel => exact ⟨t' + 1, by omega, by go_num, by rw [HTT.out]; rwa [List.take_of_length_le (by rw [Z2f, HEL.out]; omega)] at hJj, hcj, hEj⟩
              case measure => simp [intOf]; omega
        · obtain rfl : t' = tn := by omega
          gi_wp2
          go_roundw; case rel => exact ⟨k + 1, by omega, by go_num, by rw [HT.out]; exact hJt, hct⟩
          case measure => simp [intOf]; omega
    · obtain rfl : k = l.length := by omega
      gi_wp2
      go_end0
      exact ⟨⟨_, rfl⟩, .inl ⟨_, rfl, by simpa using hJk⟩⟩
theorem Za4 (x y : Int) (c : UInt8) (right : Bool) (hx : -10000000 ≤ x ∧ x ≤ 10000000) (hy : -10000000 ≤ y ∧ y ≤ 10000000) (w : World) :
  Calls Tryz.prog 212 #[.agg #[.int .i64 x, .int .i64 y], .int .u8 c.toNat, .bool right] w (RV w (.agg #[.int .i64 (aft (x, y) c right).1, .int .i64 (aft (x, y) c right).2])) := by
 have e78 : c = 78 ↔ c.toNat = 78 := by rw [← UInt8.toNat_inj]; rfl
 have e66 : c = 66 ↔ c.toNat = 66 := by rw [← UInt8.toNat_inj]; rfl
 have hK := Blk.new w 90 #[.int .i64 x, .int .i64 y]
 have fhK := hK.facts
 obtain ⟨n, hn⟩ : ∃ n, c.toNat = n := ⟨_, rfl⟩
 rw [hn] at e78 e66 ⊢
 by_cases h1 : n = 78
 ·have HA : Hid (aft (x, y) c right = (x, y + 2)) := by unfold Hid aft; rw [if_pos (e78.2 h1)]
  have t1 : ((n : Int) == 78) = true := by rw [h1]; rfl
  clear e78 e66 hn; cases right
  all_goals
   clear h1; go_enter Tryz.func212, Tryz.ntmps212
   go_wp2; refine bodyPost_ret (v := .agg #[.int .i64 x, .int .i64 (y + 2)]) (by simp [results, Tryz.results212, go_sem]) rfl ?_
   exact ⟨by rw [HA.out], by (repeat first|exact J0|assumption|(apply J1;assumption)|apply J2|apply J3|apply J4)⟩
 have t1 : ((n : Int) == 78) = false := beq_false_of_ne (by omega)
 by_cases h2 : n = 66
 ·have HA : Hid (aft (x, y) c right = (x + Z2l right, y + 1)) := by unfold Hid aft; rw [if_neg (fun h => h1 (e78.1 h)), if_pos (e66.2 h2)]
  have t2 : ((n : Int) == 66) = true := by rw [h2]; rfl
  clear e78 e66 hn; cases right
  ·clear h1 h2
   go_enter Tryz.func212, Tryz.ntmps212
   go_wp2; refine bodyPost_ret (v := .agg #[.int .i64 (x + -1), .int .i64 (y + 1)]) (by simp [results, Tryz.results212, go_sem]) rfl ?_
   exact ⟨by rw [HA.out]; rfl, by (repeat first|exact J0|assumption|(apply J1;assumption)|apply J2|apply J3|apply J4)⟩
  ·clear h1 h2
   go_enter Tryz.func212, Tryz.ntmps212
   go_wp2; refine bodyPost_ret (v := .agg #[.int .i64 (x + 1), .int .i64 (y + 1)]) (by simp [results, Tryz.results212, go_sem]) rfl ?_
   exact ⟨by rw [HA.out]; rfl, by (repeat first|exact J0|assumption|(apply J1;assumption)|apply J2|apply J3|apply J4)⟩
 have t2 : ((n : Int) == 66) = false := beq_false_of_ne (by omega)
 have HA : Hid (aft (x, y) c right = (x + 2 * Z2l right, y)) := by unfold Hid aft; rw [if_neg (fun h => h1 (e78.1 h)), if_neg (fun h => h2 (e66.1 h))]
 clear e78 e66 hn
 cases right
 ·clear h1 h2
  go_enter Tryz.func212, Tryz.ntmps212
  go_wp2; refine bodyPost_ret (v := .agg #[.int .i64 (x + -2), .int .i64 y]) (by simp [results, Tryz.results212, go_sem]) rfl ?_
  exact ⟨by rw [HA.out]; rfl, by (repeat first|exact J0|assumption|(apply J1;assumption)|apply J2|apply J3|apply J4)⟩
 ·clear h1 h2
  go_enter Tryz.func212, Tryz.ntmps212
  go_wp2; refine bodyPost_ret (v := .agg #[.int .i64 (x + 2), .int .i64 y]) (by simp [results, Tryz.results212, go_sem]) rfl ?_
  exact ⟨by rw [HA.out]; rfl, by (repeat first|exact J0|assumption|(apply J1;assumption)|apply J2|apply J3|apply J4)⟩
section
variable {α : Type} {F : Fence} {m : Nat} {P : Program} {D : Nat} {I : List α → World → Prop} {Ix : Code → List α → World → Prop} {Kp : World → World → Prop}
def Rdy (D : Nat) (rec : LoopState → Option Code → Loop) (W : World) : Prop := W.heap[D + 1]? = some (.loop (rec .ready none)) ∧ W.heap[D]? = some (.deferred (some []))
def Dne (D : Nat) (rec : LoopState → Option Code → Loop) (c : Code) (W : World) : Prop := W.heap[D + 1]? = some (.loop (rec .done (some c))) ∧ W.heap[D]? = some (.deferred (some []))
theorem Rdy.keeps {rec : LoopState → Option Code → Loop} {W W' : World} (h : Rdy D rec W) (hk : KeepsFrom D W W') : Rdy D rec W' := ⟨hk.same _ _ (by omega) h.1 rfl, hk.same _ _ (Nat.le_refl _) h.2 rfl⟩
def Za5 (D : Nat) (rec : LoopState → Option Code → Loop) (I : List α → World → Prop) (Ix : Code → List α → World → Prop) (Kp : World → World → Prop) (xs : List α) (W : World) (e : Ending) (W' : World) : Prop :=
 (e = .returned (.bool true) ∧ I xs W' ∧ Rdy D rec W' ∧ Kp W W') ∨ (e = .returned (.bool false) ∧ ∃ c, Ix c xs W' ∧ Dne D rec c W')
theorem Za6 {fn : FuncId} {tmps : Array Value} {ps : Array Tmp} {assign body : Code} {rec : LoopState → Option Code → Loop} (hrec : rec = fun st pe => { state := st, pending := pe, fn, tmps, params := ps, assign, body, defers := D })
    (hfn : F.fn fn) {args : Array Value} (hps : args.size = ps.size) (hI : OwnFrom D I) (hIx : ∀ c, OwnFrom D (Ix c)) (hKt : ∀ {A B C : World}, Kp A B → Kp B C → Kp A C) (hKb : ∀ (W : World) (o : Obj), Kp W (W.putObj (D + 1) o))
    {pre : List α} {x : α} {W : World} {a₁ : Act} (hi : I pre W) (hR : Rdy D rec W)
    (hassign : ∀ K : Act → World → Prop, K a₁ W → assign.wpIn (F.inRound (D + 1)) m P (Exit.then K (fun _ _ _ => False)) { tmps := (ps.zip args).foldl (fun t (p, v) => t.setIfInBounds p v) tmps, defers := [] } W)
    (hbody : ∀ W2, I pre W2 → Kp W W2 → body.wpIn (F.inRound (D + 1)) m P (ownPostG D Kp I Ix (pre ++ [x]) W2) a₁ W2) :
    YieldAt F m P (D + 1) args W (Za5 D rec I Ix Kp (pre ++ [x]) W) := by
  obtain ⟨hl, hd⟩ := hR; have hy := run_yield (P := P) (args := args) hl (by rw [hrec]; exact hps)
  rw [hrec] at hy; refine ⟨fn, _, assign, body, hy, roundIn_of_wpIn hfn (hassign _ ?_)⟩
  have hlt : D + 1 < W.heap.size := (Array.getElem?_eq_some_iff.1 hl).1
  refine ⟨_, run_beginRound hl (by rw [hrec]), ?_⟩
  obtain ⟨B, hB⟩ : ∃ B : Loop, B = { rec .ready none with state := .busy } := ⟨_, rfl⟩
  rw [← hB]; have hb1 : (W.putObj (D + 1) (.loop B)).heap[D + 1]? = some (.loop B) := World.putObj_heap_same hlt
  have hb2 : (W.putObj (D + 1) (.loop B)).heap[D]? = some (.deferred (some [])) := (World.putObj_heap_other (by omega)).trans hd
  refine wpIn_mono (hbody _ (hI.putObj _ hi (by omega) hl rfl) (hKb _ _)) ?_
  have ends : ∀ (jump : Option Code) (W3 : World), KeepsFrom D (W.putObj (D + 1) (.loop B)) W3 → ∃ W4, W4 = W3.putObj (D + 1) (.loop (rec (if jump.isNone then .ready else .done) jump)) ∧ (Instr.endRound (D + 1) jump).run P W3 = .ok (.bool jump.isNone) W4 ∧ W3.heap[D + 1]? = some (.loop B) ∧
      W4.heap[D + 1]? = some (.loop (rec (if jump.isNone then .ready else .done) jump)) ∧ W4.heap[D]? = some (.deferred (some [])) := fun jump W3 hk => by
    have h3 := hk.same _ _ (by omega) hb1 rfl
    have hr := run_endRound (P := P) jump h3
    rw [hB, hrec] at hr; refine ⟨_, rfl, by rw [hrec]; exact hr, h3, World.putObj_heap_same (Array.getElem?_eq_some_iff.1 h3).1, (World.putObj_heap_other (by omega)).trans (hk.same _ _ (Nat.le_refl _) hb2 rfl)⟩
  rintro e a3 W3 hp
  cases e with
  | normal =>
    obtain ⟨hk3, hp3, hi3⟩ := hp; obtain ⟨W4, rfl, hr, h3, h4, h5⟩ := ends none W3 hk3
    exact ⟨_, _, hr, .inl ⟨rfl, hI.putObj _ hi3 (by omega) h3 rfl, ⟨h4, h5⟩, hKt (hKb _ _) (hKt hp3 (hKb _ _))⟩⟩
  | ret =>
    obtain ⟨hk3, hi3⟩ := hp; obtain ⟨W4, rfl, hr, h3, h4, h5⟩ := ends (some .ret) W3 hk3
    exact ⟨_, _, hr, .inr ⟨rfl, .ret, (hIx _).putObj _ hi3 (by omega) h3 rfl, h4, h5⟩⟩
  | exit id =>
    obtain ⟨hk3, hi3⟩ := hp; obtain ⟨W4, rfl, hr, h3, h4, h5⟩ := ends (some (.exit id)) W3 hk3
    exact ⟨_, _, hr, .inr ⟨rfl, .exit id, (hIx _).putObj _ hi3 (by omega) h3 rfl, h4, h5⟩⟩
  | goto t =>
    obtain ⟨hk3, hi3⟩ := hp; obtain ⟨W4, rfl, hr, h3, h4, h5⟩ := ends (some (.goto t)) W3 hk3
    exact ⟨_, _, hr, .inr ⟨rfl, .goto t, (hIx _).putObj _ hi3 (by omega) h3 rfl, h4, h5⟩⟩
  | panic ch => exact hp.elim
  | outgrown => exact hp.elim
theorem Za7 {n : Nat} {g : Operand} {ps : Array Tmp} {assign body : Code} {Q : Exit → Act → World → Prop} {a : Act} {w : World} (hD : w.heap.size = D)
  (hro : F.round = none) (h1 : 1 ≤ n) {gf : Nat} {lb : Array Value} (hg : a.eval g = .func (.func gf) #[] lb) (hFg : F.fn gf) (eg : ∀ args w, (callFunc gf args).run P w = .ok (.enter gf args) w)
  {encs : α → Array Value} (hps : ∀ x, (encs x).size = ps.size) (hI : OwnFrom D I) (hIx : ∀ c, OwnFrom D (Ix c)) (hKt : ∀ {A B C : World}, Kp A B → Kp B C → Kp A C) (hKb : ∀ (W : World) (o : Obj), Kp W (W.putObj (D + 1) o)) (h0 : I [] w) (a₁ : α → Act)
  (hassign : ∀ (x : α) (W : World) (K : Act → World → Prop), K (a₁ x) W → assign.wpIn (F.inRound (D + 1)) (n - 1 - 1) P (Exit.then K (fun _ _ _ => False)) { tmps := (ps.zip (encs x)).foldl (fun t (p, v) => t.setIfInBounds p v) a.tmps, defers := [] } W)
  {Pm : List α → α → World → Prop} (hPm : ∀ pre x W W2, Pm pre x W → Kp W W2 → Pm pre x W2)
  (hbody : ∀ (pre : List α) (x : α) (W : World), I pre W → Pm pre x W → body.wpIn (F.inRound (D + 1)) (n - 1 - 1) P (ownPostG D Kp I Ix (pre ++ [x]) W) (a₁ x) W)
  {S : List α → Prop}
  (hseq : ∀ (rec : LoopState → Option Code → Loop) (W1 : World), Below D w W1 → W1.heap.size = D + 2 → I [] W1 → Rdy D rec W1 →
   (∀ pre x W, I pre W → Pm pre x W → Rdy D rec W → YieldAt F (n - 1 - 1) P (D + 1) (encs x) W (Za5 D rec I Ix Kp (pre ++ [x]) W)) →
   CallsIn F (n - 1) P gf (#[.func (.yield (D + 1)) #[] #[]] ++ lb) W1 fun e W' => (∃ v, e = .returned v) ∧ ((∃ xs, S xs ∧ I xs W' ∧ Rdy D rec W') ∨ ∃ c pre, Ix c pre W' ∧ Dne D rec c W'))
  (hdone : ∀ (xs : List α) (W : World), S xs → I xs W → W.heap[D]? = some (.deferred (some [])) → Q .normal { a with defers := { target := .collected D, args := #[] } :: a.defers } W)
  (hstop : ∀ (c : Code) (pre : List α) (W : World), Ix c pre W → W.heap[D]? = some (.deferred (some [])) → c.wpIn F n P Q { a with defers := { target := .collected D, args := #[] } :: a.defers } W) :
  (Code.rangeFunc g ps assign body).wpIn F n P Q a w := by
 subst hD
 refine wpIn_rangeFunc fun fn hfn => ?_
 rw [hro]
 obtain ⟨rec, hrec⟩ : ∃ rec : LoopState → Option Code → Loop, rec = fun st pe => { state := st, pending := pe, fn, tmps := a.tmps, params := ps, assign, body, defers := w.heap.size } := ⟨_, rfl⟩
 have hent := run_enterLoop_outer (P := P) (w := w) fn a.tmps ps assign body
 obtain ⟨W1, hW1⟩ : ∃ W1, (w.alloc (.deferred (some []))).alloc (.loop (rec .ready none)) = W1 := ⟨_, rfl⟩
 have hR : Rdy w.heap.size rec W1 := by
  rw [← hW1]; refine ⟨?_, (Below.heap_alloc _ _ _ (by simp)).trans (World.alloc_heap_new w _)⟩
  have := World.alloc_heap_new (w.alloc (.deferred (some []))) (.loop (rec .ready none))
  rwa [World.size_alloc] at this
 have hIW : I [] W1 := by rw [← hW1]; exact hI.alloc _ (hI.alloc _ h0)
 have hbW : Below w.heap.size w W1 := by rw [← hW1]; exact ((Below.refl _ w).alloc (Nat.le_refl _) _).alloc (by simp) _
 have hsW : W1.heap.size = w.heap.size + 2 := by rw [← hW1]; simp
 refine ⟨w.heap.size + 1, [{ target := .collected w.heap.size, args := #[] }], W1, { target := .fn (.func gf) lb, args := #[.func (.yield (w.heap.size + 1)) #[] #[]] }, W1, gf,
  #[.func (.yield (w.heap.size + 1)) #[] #[]] ++ lb, W1, by rw [← hW1, hrec]; exact hent, by simp only [resolve, hg]; simp [go_sem], fun f' hf' => by simp [Target.leads] at hf'; subst hf'; exact hFg, by simp [invoke, go_sem, eg], fun _ => h1, ?_⟩
 refine (hseq rec W1 hbW hsW hIW hR fun pre x W hi hp hr => ?_).mono ?_
 ·exact Za6 (Kp := Kp) (I := I) (Ix := Ix) (a₁ := a₁ x) hrec hfn (hps x) hI hIx hKt hKb hi hr (hassign x W) fun W2 hi2 hk2 => hbody pre x W2 hi2 (hPm _ _ _ _ hp hk2)
 ·rintro e W2 ⟨⟨v, rfl⟩, ⟨xs, hS, hi, hl, hd⟩ | ⟨c, pre, hi, hl, hd⟩⟩
  ·have hend := run_endLoop (P := P) hl (by rw [hrec]; simp)
   rw [hrec] at hend; exact ⟨none, _, hend, hdone xs _ hS (hI.putObj _ hi (by omega) hl rfl) ((World.putObj_heap_other (by omega)).trans hd)⟩
  ·have hend := run_endLoop (P := P) hl (by rw [hrec]; simp)
   rw [hrec] at hend; exact ⟨some c, _, hend, hstop c pre _ ((hIx c).putObj _ hi (by omega) hl rfl) ((World.putObj_heap_other (by omega)).trans hd)⟩
end
end Go.Proofs.YtpcgeihemkhkjaaGreatDoor
namespace Go.Proofs.YtpcgeihemkhkjaaGreatDoor
open Go.RowKit Go.ChangeMaps
set_option maxHeartbeats 4000000
set_option maxRecDepth 100000
def intR (s : Str) : Int × Bool := match Lib.atoiAll s with
 | .ok n => (n, decide (Lib.itoa n = s) && decide (max n (wrap64 (-n)) ≤ 999999))
 | .range => (Lib.atoiSat s, false)
 | _ => (0, false)
theorem Za8 (n : Int) (h : -9223372036854775808 ≤ n ∧ n ≤ 9223372036854775807) (w : World) (hL : Lay w) : Calls Tryz.prog 115 #[.int .i64 n] w (RV w (.string ⟨(Lib.itoa n).toArray⟩)) := by
 refine (Z63 n h.1 h.2 w hL.tab).mono ?_
 rintro e w' ⟨rfl, k, os, rfl⟩
 exact ⟨rfl, Z08 (Z6i _ os) (Z06 Z03 k)⟩
def Za9 (s : Str) : List Str := (Lib.splitB ⟨#[32]⟩ 0 (Lib.countB ⟨s.toArray⟩ ⟨#[32]⟩) ⟨s.toArray⟩).map fun b => b.data.toList
theorem Zaa (s : Str) : (Za9 s).length = Lib.countB ⟨s.toArray⟩ ⟨#[32]⟩ + 1 := by
 unfold Za9
 rw [List.length_map, Lib.splitB_all _ (by decide) _ _ _ rfl]
theorem Zab (s : Str) : (Za9 s).length ≤ s.length + 1 := by
 rw [Zaa]
 have := Lib.countB_le ⟨#[32]⟩ (by decide) _ ⟨s.toArray⟩ (Nat.le_refl _)
 simp [ByteArray.size] at this
 omega
def strc (s : Str) : List Value := [sV s]
theorem Zac (s : Str) (hs : s.length ≤ 1000000) (w : World) (hL : Lay w) : Calls Tryz.prog 118 #[sV s, sV [32]] w (fun e w' => ∃ c, e = .returned (.slice (some ⟨w.heap.size, 0, none⟩) (Za9 s).length c) ∧ Rd strc 1 w' (some ⟨w.heap.size, 0, none⟩) (Za9 s) ∧ (Za9 s).length ≤ c ∧ c ≤ maxLen ∧ Below w.heap.size w w') := by
 obtain ⟨m, hm⟩ := hL.mx
 refine (Z6c ⟨s.toArray⟩ ⟨#[32]⟩ m w (by simp [ByteArray.size]; omega) hm (by decide)).mono ?_
 rintro e w' ⟨rfl, rfl⟩
 have hl := Zaa s
 have hle := Zab s
 refine ⟨_, by rw [hl], fun i x hx => ?_, by rw [hl]; exact Nat.le_refl _, by unfold maxLen; omega, Z04 Z03 _⟩
 have hB := Blk.new w 9 (((Lib.splitB ⟨#[32]⟩ 0 (Lib.countB ⟨s.toArray⟩ ⟨#[32]⟩) ⟨s.toArray⟩).map Value.string).toArray)
 refine ⟨_, 0, rfl, hB.lt, fun j u hu => ?_⟩
 match j, hu with
 | 0, hu =>
  rw [hB.cell]; unfold Za9 at hx; rw [List.getElem?_map, Option.map_eq_some_iff] at hx
  obtain ⟨b, hb, rfl⟩ := hx; have hu' : sV b.data.toList = u := by simpa [strc] using hu
  subst hu'; simp [hb, sV]
theorem Zad (sep : ByteArray) : ∀ (k : Nat) (s : ByteArray), ∀ b ∈ Lib.splitB sep 0 k s, b.size ≤ s.size
 | 0, s, b, h => by
  obtain rfl : b = s := by simpa [Lib.splitB] using h
  exact Nat.le_refl _
 | k + 1, s, b, h => by
  rw [Lib.splitB] at h; split at h
  ·obtain rfl : b = s := by simpa using h
   exact Nat.le_refl _
  ·rcases List.mem_cons.1 h with rfl | h
   ·rw [ByteArray.size_extract]; omega
   ·have := Zad sep k _ b h
    rw [ByteArray.size_extract] at this; omega
theorem Zae {s w : Str} (h : w ∈ Za9 s) : w.length ≤ s.length := by
 unfold Za9 at h
 obtain ⟨b, hb, rfl⟩ := List.mem_map.1 h
 have := Zad _ _ _ b hb
 have h2 : ({ data := s.toArray } : ByteArray).size = s.length := by simp [ByteArray.size]
 rw [h2] at this
 rw [Array.length_toList]
 exact this
attribute [local go_sem] Oper.semAt_some
def Zaf : Str → List Str
 | [] => []
 | c :: r => if c = 10 then [10] :: Zaf r else match Zaf r with
  | [] => [[c]]
  | l :: ls => (c :: l) :: ls
theorem Zag : ∀ {s : Str}, Lib.indexByte s 10 = -1 → s ≠ [] → Zaf s = [s]
 | [], _, h => absurd rfl h
 | c :: r, h, _ => by
  rw [Lib.indexByte] at h; have hge := Lib.indexByte_ge r 10
  by_cases hc : c = 10
  ·subst hc
   rw [if_pos (by decide)] at h
   omega
  ·rw [if_neg (by simpa using hc)] at h
   have h1 : Lib.indexByte r 10 = -1 := by
    split at h
    ·rename_i h2; simpa using h2
    ·omega
   rw [Zaf, if_neg hc]; by_cases hr : r = []
   ·subst hr; rfl
   ·rw [Zag h1 hr]
section
variable {α : Type} {enc : α → List Value} {sz bytes : Nat} {P : Program} {t e : TypeId} {w : World}
theorem Zah (E : Elem P t e sz bytes) (henc : ∀ x, (enc x).length = sz) (hone : ∀ x, ∀ u ∈ enc x, u.oneCell' = true) (base : Nat) (ty : TypeId) (v u : Value) (l r : List α) (hown : Own enc sz base e w v l) (hu : Sl enc sz w u r)
  (h63 : l.length + r.length ≤ maxLen) (hb : (l.length + r.length) * bytes ≤ 140737488355328) (hbase : base ≤ w.heap.size) :
  ∃ v' w', (Builtin.append_ #[t, t] ty #[v, u]).run P w = .ok v' w' ∧ Own enc sz base e w' v' (l ++ r) ∧ w.grownBy w' v.ownBlock ∧ (v'.ownBlock = v.ownBlock ∨ v'.ownBlock = some w.heap.size) := by
 obtain ⟨hund, hrow, hpos⟩ := E
 obtain ⟨i, hi, hrow⟩ : ∃ i, P.info? e = some i ∧ (i.zero.map (fun z => z.cells.size), i.size, i.bytes) = (some sz, sz, bytes) := by
  cases h : P.info? e with
  | none => rw [h] at hrow; cases hrow
  | some i => rw [h] at hrow; exact ⟨i, rfl, Option.some.inj hrow⟩
 have h1 := congrArg Prod.fst hrow
 have h2 := congrArg (fun x => x.2.1) hrow
 have h3 := congrArg (fun x => x.2.2) hrow
 obtain ⟨z, hz, hzs⟩ : ∃ z, i.zero = some z ∧ z.cells.size = sz := by
  cases h : i.zero with
  | none => rw [h] at h1; cases h1
  | some z => rw [h] at h1; exact ⟨z, rfl, Option.some.inj h1⟩
 obtain ⟨A, c, rfl, hlc, hcm, hr⟩ := hu
 cases A with
 | some ad =>
  have hl : (r.flatMap enc).length = r.length * sz := by
   clear hr hlc hb h63; induction r with
   | nil => simp
   | cons x r ih => simp [henc, ih, Nat.succ_mul]; omega
  obtain ⟨v', w', q1, q2, q3, _, q5⟩ := run_append_own_at (P := P) w base t ty e i z sz bytes hund hi hz h2 h3 hzs hpos v l.length (l.flatMap enc) hown ad r.length c (r.flatMap enc) hl (by
   intro j u hj; have hjl : j < r.length * sz := by rw [← hl]; exact (List.getElem?_eq_some_iff.1 hj).1
   have hk : j / sz < r.length := Nat.div_lt_of_lt_mul (by rw [Nat.mul_comm]; exact hjl)
   obtain ⟨b, off, he, hbl, hc⟩ := hr (j / sz) r[j / sz] (List.getElem?_eq_getElem hk)
   have hm : j % sz < (enc r[j / sz]).length := by rw [henc]; exact Nat.mod_lt _ hpos
   have hj' := Z00 henc r (j / sz) r[j / sz] (j % sz) _ (List.getElem?_eq_getElem hk) (List.getElem?_eq_getElem hm)
   have hdm : j / sz * sz + j % sz = j := by rw [Nat.mul_comm]; exact Nat.div_add_mod j sz
   rw [hdm, hj] at hj'; have hcj := hc (j % sz) u (by rw [List.getElem?_eq_getElem hm]; exact hj'.symm)
   obtain rfl : ad = ⟨b, off, none⟩ := Option.some.inj he
   rw [Nat.add_assoc, hdm] at hcj; unfold Addr.add; split
   ·rename_i h0
    subst h0; exact hcj
   ·exact hcj) (by
   intro u hu; obtain ⟨x, hx, hux⟩ := List.mem_flatMap.1 hu
   exact hone x u hux) h63 hb hbase
  refine ⟨v', w', q1, ?_, q3, q5⟩
  unfold Own; simpa using q2
 | none =>
  have hr0 : r = [] := by
   cases r with
   | nil => rfl
   | cons x r =>
    obtain ⟨b, off, he, _⟩ := hr 0 x rfl
    cases he
  subst hr0; refine ⟨v, w, ?_, by simpa using hown, World.grownBy.refl _ _, .inl rfl⟩
  rcases hown.2 with ⟨rfl, hn⟩ | ⟨g, cap, cur, rfl, _, _, hnc, _⟩
  ·simp [Builtin.append_, run_underlying hund, sizeOf, typeInfo, hi, Builtin.lenOf, Builtin.firstCells]
  ·simp [Builtin.append_, run_underlying hund, sizeOf, typeInfo, hi, Builtin.lenOf, Builtin.firstCells, hnc, storeCells]
end
section
variable {F : Fence} {n : Nat} {P : Program} {ops : Array Oper} {Q : Exit → Act → World → Prop}
theorem Zai {id : Nat} {a : Act} {w : World} {l : List Oper} (B : Nat) (p : World → Prop) (pre : List Nat) (mid : List (Nat × Bool)) (post : List Nat) (hF : ∀ f, F.fn f) (hnd : Z7p l.toArray = true) (hm : P.follows .mixedOrders = true) (hB : ordB .any l.toArray pre mid post = true)
  (hQ : ∀ d c a v w, Q (.panic c) (Act.put a d v) w → Q (.panic c) a w) (hp : p w.drew)
  (h : wpQuiet P l.toArray (fun w' => ∃ g : BelM B w p, w' = g.val) (fun a' => Z7w F n P l.toArray Q (fun w' => ∃ g : BelM B w p, w' = g.val) (post.map fun i => l.getD i default) (mid.map fun i => (l.getD i.1 default, i.2)) a' w.drew) (pre.map fun i => l.getD i default) a) :
  (Code.region id l.toArray true).wpIn F n P Q a w := by
 simp only [ordB, Bool.and_eq_true, decide_eq_true_eq] at hB
 obtain ⟨⟨hs, hn⟩, hB'⟩ := hB
 refine wpIn_region_any hm (Z7u (C := fun w' => ∃ g : BelM B w p, w' = g.val) (kp := fun j => !post.contains j) _ _ _ _ ?_)
 rw [hn, Nat.add_assoc]
 refine Z80 hF hnd hs hQ (BelM.ex (Below.refl B w).drew hp) pre _ a (Z0g.start _) (by simpa [hn, Nat.add_assoc] using hB') ?_
 have e : ∀ (xs : List Nat), (xs.map fun i => l.toArray.getD i default) = xs.map fun i => l.getD i default := fun xs => List.map_congr_left fun i _ => by simp [Array.getD_eq_getD_getElem?, List.getD_eq_getElem?_getD]
 have e2 : (mid.map fun i => (l.toArray.getD i.1 default, i.2)) = mid.map fun i => (l.getD i.1 default, i.2) := List.map_congr_left fun i _ => by simp [Array.getD_eq_getD_getElem?, List.getD_eq_getElem?_getD]
 rw [e, e, e2]
 exact h
unseal Z7w in
theorem Zaj {B : Nat} {p : World → Prop} {w0 : World} {post : List Oper} {o : Oper} {r : List (Oper × Bool)} {a : Act} {w : World} (hw : Region.wanted o (yielded ops a.tmps) = true)
  (h : ∀ K : Act → World → Prop, (∀ a w', Below B w0 w' → p w' → Z7w F n P ops Q (fun w' => ∃ g : BelM B w0 p, w' = g.val) post r a w' → K a w') → o.wpIn F n P a w K Q) :
  Z7w F n P ops Q (fun w' => ∃ g : BelM B w0 p, w' = g.val) post ((o, false) :: r) a w := by
 have := h (fun a w' => (∃ g : BelM B w0 p, w' = g.val) ∧ Z7w F n P ops Q (fun w' => ∃ g : BelM B w0 p, w' = g.val) post r a w') (fun a w h1 h2 h3 => ⟨BelM.ex h1 h2, h3⟩)
 simp only [Z7w, Bool.false_eq_true, if_false, hw, if_true]
 exact this
end
end Go.Proofs.YtpcgeihemkhkjaaGreatDoor

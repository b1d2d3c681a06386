/- The statement MendLeast, walked. Conditions: slices that read as lists. -/
import Derived.Test.YthcnngoaijgnoaaGreatK11
import Derived.Test.YthcnngoaijgnoaaGreatPleJ
import Derived.Test.YthcnngoaijgnoaaGreatK10
import Derived.Deep.CutRange
namespace Go.Proofs.YthcnngoaijgnoaaGreat
open Go.RowKit Go.ChangeMaps
set_option maxHeartbeats 16000000
set_option maxRecDepth 100000

theorem none_cases {N D : List Bar} (hE : tornE N D = 0) : (D = [] ∧ noneE N D = 7) ∨ (D ≠ [] ∧ noneE N D = 0) := by
  unfold noneE
  rw [hE]
  cases D with
  | nil => exact .inl ⟨rfl, rfl⟩
  | cons b r => exact .inr ⟨by simp, rfl⟩
/-- what the region of a pair makes -/
def lsF (N D P : List Bar) (i : Nat) (v : Value) (W : World) : Prop :=
  (i = 1 → ∃ v' u', v = .agg #[v', u'] ∧ SlB W v' N ∧ SlB W u' D) ∧ (i = 10 → SlB W v P)
theorem lsF_st (N D P : List Bar) : ∀ i v W W', lsF N D P i v W → Below W.heap.size W W' → lsF N D P i v W' := fun i v W W' h hb =>
  ⟨fun hi => by obtain ⟨a, b, h1, h2, h3⟩ := h.1 hi; exact ⟨a, b, h1, h2.below hb, h3.below hb⟩, fun hi => (h.2 hi).below hb⟩
theorem sl_two (w : World) (a b : Bar) : SlB (w.alloc (.cells #[.int .i64 a.1, .int .i64 a.2.1, .int .i64 a.2.2, .int .i64 b.1, .int .i64 b.2.1, .int .i64 b.2.2] 70)) (.slice (some ⟨w.heap.size, 0, none⟩) 2 2) [a, b] := by
  have hB := Blk.new w 70 #[.int .i64 a.1, .int .i64 a.2.1, .int .i64 a.2.2, .int .i64 b.1, .int .i64 b.2.1, .int .i64 b.2.2]
  refine ⟨_, _, rfl, by simp, by simp [maxLen], fun i x hx => ⟨_, _, rfl, hB.lt, fun j u hu => ?_⟩⟩
  rw [hB.cell]
  match i, j, hx, hu with
  | 0, 0, hx, hu => obtain rfl : a = x := by simpa using hx
                    simpa [bc] using hu
  | 0, 1, hx, hu => obtain rfl : a = x := by simpa using hx
                    simpa [bc] using hu
  | 0, 2, hx, hu => obtain rfl : a = x := by simpa using hx
                    simpa [bc] using hu
  | 1, 0, hx, hu => obtain rfl : b = x := by simpa using hx
                    simpa [bc] using hu
  | 1, 1, hx, hu => obtain rfl : b = x := by simpa using hx
                    simpa [bc] using hu
  | 1, 2, hx, hu => obtain rfl : b = x := by simpa using hx
                    simpa [bc] using hu
  | 0, j + 3, _, hu => simp [bc] at hu
  | 1, j + 3, _, hu => simp [bc] at hu
  | i + 2, _, hx, _ => simp at hx
theorem sl_take {w : World} {A : Option Addr} {c : Nat} {l : List Bar} (h : SlB w (.slice A l.length c) l) {k : Nat} (hk : k ≤ l.length) : SlB w (.slice A k c) (l.take k) := by
  obtain ⟨A', c', e, h1, h2, hr⟩ := h
  obtain ⟨rfl, rfl⟩ : A = A' ∧ c = c' := by simpa using e
  refine ⟨_, _, by rw [List.length_take, Nat.min_eq_left hk], by rw [List.length_take]; omega, h2, fun i x hx => hr i x ?_⟩
  rw [List.getElem?_take] at hx
  split at hx
  · exact hx
  · cases hx
theorem run_two (W : World) (b c : Bar) : (Instr.buildSlice 22 2 #[(0, .agg #[.int .i64 b.1, .int .i64 b.2.1, .int .i64 b.2.2]), (1, .agg #[.int .i64 c.1, .int .i64 c.2.1, .int .i64 c.2.2])]).run Tryz.prog W =
    .ok (.slice (some ⟨W.heap.size, 0, none⟩) 2 2) (W.alloc (.cells #[.int .i64 b.1, .int .i64 b.2.1, .int .i64 b.2.2, .int .i64 c.1, .int .i64 c.2.1, .int .i64 c.2.2] 70)) := by
  simp [go_sem]
theorem op_two {o : Oper} {a : Act} {K : Act → World → Prop} {Q : Exit → Act → World → Prop} {W : World} {b c : Bar} {x y : Operand} (ho : o.op = .buildSlice 22 2 #[(0, x), (1, y)])
    (hx : a.eval x = .agg #[.int .i64 b.1, .int .i64 b.2.1, .int .i64 b.2.2]) (hy : a.eval y = .agg #[.int .i64 c.1, .int .i64 c.2.1, .int .i64 c.2.2])
    (hK : K (a.put o.dst (.slice (some ⟨W.heap.size, 0, none⟩) 2 2)) (W.alloc (.cells #[.int .i64 b.1, .int .i64 b.2.1, .int .i64 b.2.2, .int .i64 c.1, .int .i64 c.2.1, .int .i64 c.2.2] 70))) : o.wp Tryz.prog a W K Q := by
  have e : (#[(0, x), (1, y)] : Array (Nat × Operand)).map (fun (i, z) => (i, a.eval z)) = #[(0, .agg #[.int .i64 b.1, .int .i64 b.2.1, .int .i64 b.2.2]), (1, .agg #[.int .i64 c.1, .int .i64 c.2.1, .int .i64 c.2.2])] := by
    rw [List.map_toArray]
    simp only [List.map_cons, List.map_nil, hx, hy]
  unfold Oper.wp execOp
  rw [ho]
  simp only [e, Sem.run_bind, run_two, Result.andThen_ok, Sem.run_pure]
  exact hK
theorem mendLeast_any {v u : Value} (N D : List Bar) (w : World) (hN : SlB w v N) (hD : SlB w u D) : Calls Tryz.prog 14 #[.agg #[v, u]] w (RV w (.bool true)) := by
  have hN' := hN
  obtain ⟨A1, c1, rfl, _, _, hr1⟩ := hN'
  have hD' := hD
  obtain ⟨A2, c2, rfl, hlc2, hcm2, hr2⟩ := hD'
  clear hr1 hr2
  have hl2 : D.length ≤ maxLen := Nat.le_trans hlc2 hcm2
  unfold maxLen at hl2
  have hB := Blk.new w 24 #[.slice A1 N.length c1, .slice A2 D.length c2]
  have fhB := hB.facts
  have hvl := fun W (hN : SlB W (.slice A1 N.length c1) N) (hD : SlB W (.slice A2 D.length c2) D) => valid_any N D 24 W hN hD
  obtain ⟨qv, hqv⟩ : ∃ q, vldB N D 24 = q := ⟨_, rfl⟩
  simp only [hqv] at hvl
  cases qv
  · clear hqv
    go_enter Tryz.func14, Tryz.ntmps14
    go_wp2_with fail
    refine (hvl _ (hN.below (by (repeat (first | exact bl_refl | assumption | (apply bl_then; assumption) | refine bl_alloc ?_ _ | refine bl_drew ?_ | refine bl_drewN ?_ _)))) (hD.below (by (repeat (first | exact bl_refl | assumption | (apply bl_then; assumption) | refine bl_alloc ?_ _ | refine bl_drew ?_ | refine bl_drewN ?_ _))))).mono ?_
    rintro e w1 ⟨rfl, hb1⟩
    replace hB := hB.below (show Below _ _ w1 by (repeat (first | exact bl_refl | assumption | (apply bl_then; assumption) | refine bl_alloc ?_ _ | refine bl_drew ?_ | refine bl_drewN ?_ _)))
    replace fhB := hB.facts
    go_wp2_with fail
    refine (awake_any _).mono ?_
    rintro e w2 ⟨rfl, hb2⟩
    go_wp2
    go_ret
    exact ⟨rfl, by (repeat (first | exact bl_refl | assumption | (apply bl_then; assumption) | refine bl_alloc ?_ _ | refine bl_drew ?_ | refine bl_drewN ?_ _))⟩
  obtain ⟨hs, hE⟩ := vld_ok hqv
  clear hqv
  by_cases h8 : 8 < D.length
  · have h8' : ((8 : Int) < (D.length : Int)) = True := by simp; omega
    clear h8
    go_enter Tryz.func14, Tryz.ntmps14
    go_wp2_with fail
    refine (hvl _ (hN.below (by (repeat (first | exact bl_refl | assumption | (apply bl_then; assumption) | refine bl_alloc ?_ _ | refine bl_drew ?_ | refine bl_drewN ?_ _)))) (hD.below (by (repeat (first | exact bl_refl | assumption | (apply bl_then; assumption) | refine bl_alloc ?_ _ | refine bl_drew ?_ | refine bl_drewN ?_ _))))).mono ?_
    rintro e w1 ⟨rfl, hb1⟩
    replace hB := hB.below (show Below _ _ w1 by (repeat (first | exact bl_refl | assumption | (apply bl_then; assumption) | refine bl_alloc ?_ _ | refine bl_drew ?_ | refine bl_drewN ?_ _)))
    replace fhB := hB.facts
    go_wp2_with fail
    refine (awake_any _).mono ?_
    rintro e w2 ⟨rfl, hb2⟩
    go_wp2
    go_ret
    exact ⟨rfl, by (repeat (first | exact bl_refl | assumption | (apply bl_then; assumption) | refine bl_alloc ?_ _ | refine bl_drew ?_ | refine bl_drewN ?_ _))⟩
  have h8' : ((8 : Int) < (D.length : Int)) = False := by simp; omega
  have hok := torn_ok hE
  have htr : ∀ {v u : Value} (w : World), SlB w v N → SlB w u D → Calls Tryz.prog 33 #[.agg #[v, u], .int .i64 2] w (RBE w (leastL N D 2) (leastE N D 2)) := fun w hN hD => trim_any N D 2 w hN hD
  have hru : ∀ {v u : Value} (w : World), SlB w v N → SlB w u D → Calls Tryz.prog 70 #[.agg #[v, u]] w (RBE w (ruleL N D) (ruleE N D)) := fun w hN hD => rule_any N D w hN hD
  have hbo : ∀ {v u : Value} (w : World), SlB w v N → SlB w u D → Calls Tryz.prog 53 #[.agg #[v, u]] w (RV w (.tuple #[.int .i64 (boundR N D), .int .i64 (noneE N D)])) := fun w hN hD => pbound_any N D w hN hD
  have hck : ∀ {v u z : Value} (T : List Bar) (w : World), SlB w v N → SlB w u D → SlB w z T → Calls Tryz.prog 47 #[.agg #[v, u], z] w (RV w (.int .i64 (trimE N D T))) := fun T w hN hD hT => checkTrim_any N D T w hN hD hT
  have hLF := least_facts hE (by omega)
  have hLB := least_bound hE (by omega)
  have hRF := rule_facts hE
  have hNC := none_cases hE
  obtain ⟨E1, hE1⟩ : ∃ x, leastE N D 2 = x := ⟨_, rfl⟩
  obtain ⟨L, hL⟩ : ∃ x, leastL N D 2 = x := ⟨_, rfl⟩
  obtain ⟨E2, hE2⟩ : ∃ x, ruleE N D = x := ⟨_, rfl⟩
  obtain ⟨R, hR⟩ : ∃ x, ruleL N D = x := ⟨_, rfl⟩
  obtain ⟨E3, hE3⟩ : ∃ x, noneE N D = x := ⟨_, rfl⟩
  obtain ⟨Bn, hBn⟩ : ∃ x, boundR N D = x := ⟨_, rfl⟩
  simp only [hE1, hL, hE2, hR, hE3, hBn] at htr hru hbo hLF hLB hRF hNC
  clear hE1 hL hE2 hR hE3 hBn
  have hSs := wout_sorted (N := N) (D := D) hok.net.sorted
  have hSl := wout_len N D
  have hLl : L.length ≤ 2 := by
    rcases hLF with h | h
    · exact h.2.1
    · rw [h.2.1]; simp
  have hRl : R.length ≤ 32 := by
    rcases hRF with h | h
    · exact h.2.2
    · rw [h.2]; simp
  have hLl' : ((2 : Int) < (L.length : Int)) = False := by simp; omega
  have hRl' : ((32 : Int) < (R.length : Int)) = False := by simp; omega
  have HLF := Lib.hid hLF
  have HLB := Lib.hid hLB
  have HRF := Lib.hid hRF
  have HNC := Lib.hid hNC
  clear hLF hLB hRF hNC h8 hok
  go_enter Tryz.func14, Tryz.ntmps14
  go_wp2_with fail
  refine (hvl _ (hN.below (by (repeat (first | exact bl_refl | assumption | (apply bl_then; assumption) | refine bl_alloc ?_ _ | refine bl_drew ?_ | refine bl_drewN ?_ _)))) (hD.below (by (repeat (first | exact bl_refl | assumption | (apply bl_then; assumption) | refine bl_alloc ?_ _ | refine bl_drew ?_ | refine bl_drewN ?_ _))))).mono ?_
  rintro e w1 ⟨rfl, hb1⟩
  replace hB := hB.below (show Below _ _ w1 by (repeat (first | exact bl_refl | assumption | (apply bl_then; assumption) | refine bl_alloc ?_ _ | refine bl_drew ?_ | refine bl_drewN ?_ _)))
  replace fhB := hB.facts
  clear hvl
  go_wp2_with fail
  refine (torn_any N D _ (hN.below (by (repeat (first | exact bl_refl | assumption | (apply bl_then; assumption) | refine bl_alloc ?_ _ | refine bl_drew ?_ | refine bl_drewN ?_ _)))) (hD.below (by (repeat (first | exact bl_refl | assumption | (apply bl_then; assumption) | refine bl_alloc ?_ _ | refine bl_drew ?_ | refine bl_drewN ?_ _)))) (by omega) (by omega)).mono ?_
  rintro e w2 ⟨v2, u2, rfl, hN2, hD2, hb2⟩
  replace hB := hB.below (show Below _ _ w2 by (repeat (first | exact bl_refl | assumption | (apply bl_then; assumption) | refine bl_alloc ?_ _ | refine bl_drew ?_ | refine bl_drewN ?_ _)))
  replace fhB := hB.facts
  go_wp2_with fail
  refine (htr _ (hN2.rd bc_len) (hD2.rd bc_len)).mono ?_
  rintro e w3 ⟨v3, rfl, hL3, hb3⟩
  replace hB := hB.below (show Below _ _ w3 by (repeat (first | exact bl_refl | assumption | (apply bl_then; assumption) | refine bl_alloc ?_ _ | refine bl_drew ?_ | refine bl_drewN ?_ _)))
  replace fhB := hB.facts
  obtain ⟨A3, c3, rfl⟩ := hL3.shape
  have hLs : SlB w3 _ _ := hL3.rd bc_len
  have hbw3 : Below w.heap.size w w3 := by (repeat (first | exact bl_refl | assumption | (apply bl_then; assumption) | refine bl_alloc ?_ _ | refine bl_drew ?_ | refine bl_drewN ?_ _))
  clear hN2 hD2 hb1 hb2 hb3 hL3 htr
  go_wp2_with fail
  refine (torn_any N D _ (hN.below (by (repeat (first | exact bl_refl | assumption | (apply bl_then; assumption) | refine bl_alloc ?_ _ | refine bl_drew ?_ | refine bl_drewN ?_ _)))) (hD.below (by (repeat (first | exact bl_refl | assumption | (apply bl_then; assumption) | refine bl_alloc ?_ _ | refine bl_drew ?_ | refine bl_drewN ?_ _)))) (by omega) (by omega)).mono ?_
  rintro e w4 ⟨v4, u4, rfl, hN4, hD4, hb4⟩
  replace hB := hB.below (show Below _ _ w4 by (repeat (first | exact bl_refl | assumption | (apply bl_then; assumption) | refine bl_alloc ?_ _ | refine bl_drew ?_ | refine bl_drewN ?_ _)))
  replace fhB := hB.facts
  go_wp2_with fail
  refine (hru _ (hN4.rd bc_len) (hD4.rd bc_len)).mono ?_
  rintro e w5 ⟨v5, rfl, hR5, hb5⟩
  replace hB := hB.below (show Below _ _ w5 by (repeat (first | exact bl_refl | assumption | (apply bl_then; assumption) | refine bl_alloc ?_ _ | refine bl_drew ?_ | refine bl_drewN ?_ _)))
  replace fhB := hB.facts
  obtain ⟨A5, c5, rfl⟩ := hR5.shape
  have hRs : SlB w5 _ _ := hR5.rd bc_len
  go_wp2_with fail
  refine (torn_any N D _ (hN.below (by (repeat (first | exact bl_refl | assumption | (apply bl_then; assumption) | refine bl_alloc ?_ _ | refine bl_drew ?_ | refine bl_drewN ?_ _)))) (hD.below (by (repeat (first | exact bl_refl | assumption | (apply bl_then; assumption) | refine bl_alloc ?_ _ | refine bl_drew ?_ | refine bl_drewN ?_ _)))) (by omega) (by omega)).mono ?_
  rintro e w6 ⟨v6, u6, rfl, hN6, hD6, hb6⟩
  replace hB := hB.below (show Below _ _ w6 by (repeat (first | exact bl_refl | assumption | (apply bl_then; assumption) | refine bl_alloc ?_ _ | refine bl_drew ?_ | refine bl_drewN ?_ _)))
  replace fhB := hB.facts
  go_wp2_with fail
  refine (hbo _ (hN6.rd bc_len) (hD6.rd bc_len)).mono ?_
  rintro e w7 ⟨rfl, hb7⟩
  replace hB := hB.below (show Below _ _ w7 by (repeat (first | exact bl_refl | assumption | (apply bl_then; assumption) | refine bl_alloc ?_ _ | refine bl_drew ?_ | refine bl_drewN ?_ _)))
  replace fhB := hB.facts
  go_wp2_with fail
  refine (refWithout_any N D _ (hN.below (by (repeat (first | exact bl_refl | assumption | (apply bl_then; assumption) | refine bl_alloc ?_ _ | refine bl_drew ?_ | refine bl_drewN ?_ _)))) (hD.below (by (repeat (first | exact bl_refl | assumption | (apply bl_then; assumption) | refine bl_alloc ?_ _ | refine bl_drew ?_ | refine bl_drewN ?_ _)))) (by omega)).mono ?_
  rintro e w8 ⟨v8, rfl, hS8, hb8⟩
  replace hB := hB.below (show Below _ _ w8 by (repeat (first | exact bl_refl | assumption | (apply bl_then; assumption) | refine bl_alloc ?_ _ | refine bl_drew ?_ | refine bl_drewN ?_ _)))
  replace fhB := hB.facts
  obtain ⟨A8, c8, rfl⟩ := hS8.shape
  have hSs8 : SlB w8 _ _ := hS8.rd bc_len
  have hLs8 := hLs.below (show Below _ _ w8 by (repeat (first | exact bl_refl | assumption | (apply bl_then; assumption) | refine bl_alloc ?_ _ | refine bl_drew ?_ | refine bl_drewN ?_ _)))
  have hRs8 := hRs.below (show Below _ _ w8 by (repeat (first | exact bl_refl | assumption | (apply bl_then; assumption) | refine bl_alloc ?_ _ | refine bl_drew ?_ | refine bl_drewN ?_ _)))
  have hbw8 : Below w.heap.size w w8 := by (repeat (first | exact bl_refl | assumption | (apply bl_then; assumption) | refine bl_alloc ?_ _ | refine bl_drew ?_ | refine bl_drewN ?_ _))
  clear hN4 hD4 hb4 hb5 hR5 hN6 hD6 hb6 hb7 hb8 hS8 hLs hRs hbw3 hru hbo
  obtain ⟨S, hS⟩ : ∃ x, wout N D = x := ⟨_, rfl⟩
  rw [hS] at hSs hSl hSs8 ⊢
  have HSD := Lib.hid hS
  clear hS
  go_upto_region 7 with fail
  go_cut [80] from 15 (fun s wx => s = .bool false ∧ Below w8.heap.size w8 wx)
  case first =>
    have hc1 : E1 = 0 ∨ E1 = 23 := HLF.out.imp (·.1) (·.1)
    have hc2 : E2 = 0 ∨ E2 = 23 := HRF.out.imp (·.1) (·.1)
    have hc3 : (((D.length : Int) == 0) = true ∧ E3 = 7) ∨ (((D.length : Int) == 0) = false ∧ E3 = 0) := by
      rcases HNC.out with ⟨rfl, h⟩ | ⟨h, h'⟩
      · exact .inl ⟨rfl, h⟩
      · refine .inr ⟨?_, h'⟩
        have : D.length ≠ 0 := fun e => h (List.eq_nil_of_length_eq_zero e)
        simp; exact h
    clear HLF HRF HLB HNC
    rcases hc1 with rfl | rfl <;> rcases hc2 with rfl | rfl <;> rcases hc3 with ⟨hd, rfl⟩ | ⟨hd, rfl⟩
    all_goals
      go_wp2_with fail
      go_meet
      case rel => exact ⟨rfl, by (repeat (first | exact bl_refl | assumption | (apply bl_then; assumption) | refine bl_alloc ?_ _ | refine bl_drew ?_ | refine bl_drewN ?_ _))⟩
  case rest =>
    as_aux_lemma =>
      obtain ⟨rfl, hbc⟩ := hcut
      have hB9 := hB.below hbc
      replace fhB := hB9.facts
      have hL9 := hLs8.below hbc
      have hR9 := hRs8.below hbc
      have hS9 := hSs8.below hbc
      have hbw9 := bl_then hbc hbw8
      clear hB hLs8 hRs8 hSs8 hbc hbw8 hLl' hRl'
      obtain ⟨w9, rfl⟩ : ∃ x, x = wc := ⟨_, rfl⟩
      go_upto_region 9 with fail
      go_cut [123] from 15 (fun s wx => s = .bool false ∧ Below w9.heap.size w9 wx)
      case first =>
        have hc1 : (E1 = 0 ∧ trimE N D L = 0 ∧ ∀ T, trimE N D T = 0 → L.length ≤ T.length) ∨ (E1 = 23) := HLF.out.imp (fun h => ⟨h.1, h.2.2.1, h.2.2.2.2.1⟩) (·.1)
        have hc2 : (E2 = 0 ∧ trimE N D R = 0) ∨ (E2 = 23) := HRF.out.imp (fun h => ⟨h.1, h.2.1⟩) (·.1)
        have hc3 : (E3 = 7) ∨ (E3 = 0 ∧ (E1 = 0 → Bn ≤ (L.length : Int))) := by
          rcases HNC.out with ⟨_, h⟩ | ⟨h, h'⟩
          · exact .inl h
          · exact .inr ⟨h', HLB.out h⟩
        clear HLF HRF HLB HNC HSD
        rcases hc2 with ⟨rfl, hr0⟩ | rfl
        · rcases hc1 with ⟨rfl, hl0, hall⟩ | rfl
          · rcases hc3 with rfl | ⟨rfl, hbn⟩
            · as_aux_lemma =>
                have hrl' : ((R.length : Int) < (L.length : Int)) = False := by have := hall R hr0; simp; omega
                clear hall
                have hckR : ∀ {v u z : Value} (w : World), SlB w v N → SlB w u D → SlB w z R → Calls Tryz.prog 47 #[.agg #[v, u], z] w (RV w (.int .i64 0)) := fun w h1 h2 h3 => by
                  have := hck R w h1 h2 h3
                  rwa [hr0] at this
                have hckL : ∀ {v u z : Value} (w : World), SlB w v N → SlB w u D → SlB w z L → Calls Tryz.prog 47 #[.agg #[v, u], z] w (RV w (.int .i64 0)) := fun w h1 h2 h3 => by
                  have := hck L w h1 h2 h3
                  rwa [hl0] at this
                clear hr0
                clear hl0
                clear hck
                go_wp2_with fail
                refine (torn_any N D _ (hN.below (by (repeat (first | exact bl_refl | assumption | (apply bl_then; assumption) | refine bl_alloc ?_ _ | refine bl_drew ?_ | refine bl_drewN ?_ _)))) (hD.below (by (repeat (first | exact bl_refl | assumption | (apply bl_then; assumption) | refine bl_alloc ?_ _ | refine bl_drew ?_ | refine bl_drewN ?_ _)))) (by omega) (by omega)).mono ?_
                rintro e wa1 ⟨va1, ua1, rfl, hNa1, hDa1, hba1⟩
                replace hB9 := hB9.below (show Below _ _ wa1 by (repeat (first | exact bl_refl | assumption | (apply bl_then; assumption) | refine bl_alloc ?_ _ | refine bl_drew ?_ | refine bl_drewN ?_ _)))
                replace fhB9 := hB9.facts
                go_wp2_with fail
                refine (bars_any R _ (hR9.below (by (repeat (first | exact bl_refl | assumption | (apply bl_then; assumption) | refine bl_alloc ?_ _ | refine bl_drew ?_ | refine bl_drewN ?_ _)))) (by omega)).mono ?_
                rintro e wb1 ⟨vb1, rfl, hPb1, hbb1⟩
                replace hB9 := hB9.below (show Below _ _ wb1 by (repeat (first | exact bl_refl | assumption | (apply bl_then; assumption) | refine bl_alloc ?_ _ | refine bl_drew ?_ | refine bl_drewN ?_ _)))
                replace fhB9 := hB9.facts
                go_wp2_with fail
                refine (hckR _ ((hNa1.rd bc_len).below (by (repeat (first | exact bl_refl | assumption | (apply bl_then; assumption) | refine bl_alloc ?_ _ | refine bl_drew ?_ | refine bl_drewN ?_ _)))) ((hDa1.rd bc_len).below (by (repeat (first | exact bl_refl | assumption | (apply bl_then; assumption) | refine bl_alloc ?_ _ | refine bl_drew ?_ | refine bl_drewN ?_ _)))) (hPb1.rd bc_len)).mono ?_
                rintro e wd1 ⟨rfl, hbd1⟩
                replace hB9 := hB9.below (show Below _ _ wd1 by (repeat (first | exact bl_refl | assumption | (apply bl_then; assumption) | refine bl_alloc ?_ _ | refine bl_drew ?_ | refine bl_drewN ?_ _)))
                replace fhB9 := hB9.facts
                go_wp2_with fail
                refine (torn_any N D _ (hN.below (by (repeat (first | exact bl_refl | assumption | (apply bl_then; assumption) | refine bl_alloc ?_ _ | refine bl_drew ?_ | refine bl_drewN ?_ _)))) (hD.below (by (repeat (first | exact bl_refl | assumption | (apply bl_then; assumption) | refine bl_alloc ?_ _ | refine bl_drew ?_ | refine bl_drewN ?_ _)))) (by omega) (by omega)).mono ?_
                rintro e wa2 ⟨va2, ua2, rfl, hNa2, hDa2, hba2⟩
                replace hB9 := hB9.below (show Below _ _ wa2 by (repeat (first | exact bl_refl | assumption | (apply bl_then; assumption) | refine bl_alloc ?_ _ | refine bl_drew ?_ | refine bl_drewN ?_ _)))
                replace fhB9 := hB9.facts
                go_wp2_with fail
                refine (bars_any L _ (hL9.below (by (repeat (first | exact bl_refl | assumption | (apply bl_then; assumption) | refine bl_alloc ?_ _ | refine bl_drew ?_ | refine bl_drewN ?_ _)))) (by omega)).mono ?_
                rintro e wb2 ⟨vb2, rfl, hPb2, hbb2⟩
                replace hB9 := hB9.below (show Below _ _ wb2 by (repeat (first | exact bl_refl | assumption | (apply bl_then; assumption) | refine bl_alloc ?_ _ | refine bl_drew ?_ | refine bl_drewN ?_ _)))
                replace fhB9 := hB9.facts
                go_wp2_with fail
                refine (hckL _ ((hNa2.rd bc_len).below (by (repeat (first | exact bl_refl | assumption | (apply bl_then; assumption) | refine bl_alloc ?_ _ | refine bl_drew ?_ | refine bl_drewN ?_ _)))) ((hDa2.rd bc_len).below (by (repeat (first | exact bl_refl | assumption | (apply bl_then; assumption) | refine bl_alloc ?_ _ | refine bl_drew ?_ | refine bl_drewN ?_ _)))) (hPb2.rd bc_len)).mono ?_
                rintro e wd2 ⟨rfl, hbd2⟩
                replace hB9 := hB9.below (show Below _ _ wd2 by (repeat (first | exact bl_refl | assumption | (apply bl_then; assumption) | refine bl_alloc ?_ _ | refine bl_drew ?_ | refine bl_drewN ?_ _)))
                replace fhB9 := hB9.facts
                go_wp2_with fail
                go_meet
                case rel => exact ⟨rfl, by (repeat (first | exact bl_refl | assumption | (apply bl_then; assumption) | refine bl_alloc ?_ _ | refine bl_drew ?_ | refine bl_drewN ?_ _))⟩
            · as_aux_lemma =>
                have hbn' : ((L.length : Int) < Bn) = False := by have := hbn rfl; simp; omega
                have hrl' : ((R.length : Int) < (L.length : Int)) = False := by have := hall R hr0; simp; omega
                clear hall hbn
                have hckR : ∀ {v u z : Value} (w : World), SlB w v N → SlB w u D → SlB w z R → Calls Tryz.prog 47 #[.agg #[v, u], z] w (RV w (.int .i64 0)) := fun w h1 h2 h3 => by
                  have := hck R w h1 h2 h3
                  rwa [hr0] at this
                have hckL : ∀ {v u z : Value} (w : World), SlB w v N → SlB w u D → SlB w z L → Calls Tryz.prog 47 #[.agg #[v, u], z] w (RV w (.int .i64 0)) := fun w h1 h2 h3 => by
                  have := hck L w h1 h2 h3
                  rwa [hl0] at this
                clear hr0
                clear hl0
                clear hck
                go_wp2_with fail
                refine (torn_any N D _ (hN.below (by (repeat (first | exact bl_refl | assumption | (apply bl_then; assumption) | refine bl_alloc ?_ _ | refine bl_drew ?_ | refine bl_drewN ?_ _)))) (hD.below (by (repeat (first | exact bl_refl | assumption | (apply bl_then; assumption) | refine bl_alloc ?_ _ | refine bl_drew ?_ | refine bl_drewN ?_ _)))) (by omega) (by omega)).mono ?_
                rintro e wa1 ⟨va1, ua1, rfl, hNa1, hDa1, hba1⟩
                replace hB9 := hB9.below (show Below _ _ wa1 by (repeat (first | exact bl_refl | assumption | (apply bl_then; assumption) | refine bl_alloc ?_ _ | refine bl_drew ?_ | refine bl_drewN ?_ _)))
                replace fhB9 := hB9.facts
                go_wp2_with fail
                refine (bars_any R _ (hR9.below (by (repeat (first | exact bl_refl | assumption | (apply bl_then; assumption) | refine bl_alloc ?_ _ | refine bl_drew ?_ | refine bl_drewN ?_ _)))) (by omega)).mono ?_
                rintro e wb1 ⟨vb1, rfl, hPb1, hbb1⟩
                replace hB9 := hB9.below (show Below _ _ wb1 by (repeat (first | exact bl_refl | assumption | (apply bl_then; assumption) | refine bl_alloc ?_ _ | refine bl_drew ?_ | refine bl_drewN ?_ _)))
                replace fhB9 := hB9.facts
                go_wp2_with fail
                refine (hckR _ ((hNa1.rd bc_len).below (by (repeat (first | exact bl_refl | assumption | (apply bl_then; assumption) | refine bl_alloc ?_ _ | refine bl_drew ?_ | refine bl_drewN ?_ _)))) ((hDa1.rd bc_len).below (by (repeat (first | exact bl_refl | assumption | (apply bl_then; assumption) | refine bl_alloc ?_ _ | refine bl_drew ?_ | refine bl_drewN ?_ _)))) (hPb1.rd bc_len)).mono ?_
                rintro e wd1 ⟨rfl, hbd1⟩
                replace hB9 := hB9.below (show Below _ _ wd1 by (repeat (first | exact bl_refl | assumption | (apply bl_then; assumption) | refine bl_alloc ?_ _ | refine bl_drew ?_ | refine bl_drewN ?_ _)))
                replace fhB9 := hB9.facts
                go_wp2_with fail
                refine (torn_any N D _ (hN.below (by (repeat (first | exact bl_refl | assumption | (apply bl_then; assumption) | refine bl_alloc ?_ _ | refine bl_drew ?_ | refine bl_drewN ?_ _)))) (hD.below (by (repeat (first | exact bl_refl | assumption | (apply bl_then; assumption) | refine bl_alloc ?_ _ | refine bl_drew ?_ | refine bl_drewN ?_ _)))) (by omega) (by omega)).mono ?_
                rintro e wa2 ⟨va2, ua2, rfl, hNa2, hDa2, hba2⟩
                replace hB9 := hB9.below (show Below _ _ wa2 by (repeat (first | exact bl_refl | assumption | (apply bl_then; assumption) | refine bl_alloc ?_ _ | refine bl_drew ?_ | refine bl_drewN ?_ _)))
                replace fhB9 := hB9.facts
                go_wp2_with fail
                refine (bars_any L _ (hL9.below (by (repeat (first | exact bl_refl | assumption | (apply bl_then; assumption) | refine bl_alloc ?_ _ | refine bl_drew ?_ | refine bl_drewN ?_ _)))) (by omega)).mono ?_
                rintro e wb2 ⟨vb2, rfl, hPb2, hbb2⟩
                replace hB9 := hB9.below (show Below _ _ wb2 by (repeat (first | exact bl_refl | assumption | (apply bl_then; assumption) | refine bl_alloc ?_ _ | refine bl_drew ?_ | refine bl_drewN ?_ _)))
                replace fhB9 := hB9.facts
                go_wp2_with fail
                refine (hckL _ ((hNa2.rd bc_len).below (by (repeat (first | exact bl_refl | assumption | (apply bl_then; assumption) | refine bl_alloc ?_ _ | refine bl_drew ?_ | refine bl_drewN ?_ _)))) ((hDa2.rd bc_len).below (by (repeat (first | exact bl_refl | assumption | (apply bl_then; assumption) | refine bl_alloc ?_ _ | refine bl_drew ?_ | refine bl_drewN ?_ _)))) (hPb2.rd bc_len)).mono ?_
                rintro e wd2 ⟨rfl, hbd2⟩
                replace hB9 := hB9.below (show Below _ _ wd2 by (repeat (first | exact bl_refl | assumption | (apply bl_then; assumption) | refine bl_alloc ?_ _ | refine bl_drew ?_ | refine bl_drewN ?_ _)))
                replace fhB9 := hB9.facts
                go_wp2_with fail
                go_meet
                case rel => exact ⟨rfl, by (repeat (first | exact bl_refl | assumption | (apply bl_then; assumption) | refine bl_alloc ?_ _ | refine bl_drew ?_ | refine bl_drewN ?_ _))⟩
          · rcases hc3 with rfl | ⟨rfl, hbn⟩
            · as_aux_lemma =>
                have hckR : ∀ {v u z : Value} (w : World), SlB w v N → SlB w u D → SlB w z R → Calls Tryz.prog 47 #[.agg #[v, u], z] w (RV w (.int .i64 0)) := fun w h1 h2 h3 => by
                  have := hck R w h1 h2 h3
                  rwa [hr0] at this
                clear hr0
                clear hck
                go_wp2_with fail
                refine (torn_any N D _ (hN.below (by (repeat (first | exact bl_refl | assumption | (apply bl_then; assumption) | refine bl_alloc ?_ _ | refine bl_drew ?_ | refine bl_drewN ?_ _)))) (hD.below (by (repeat (first | exact bl_refl | assumption | (apply bl_then; assumption) | refine bl_alloc ?_ _ | refine bl_drew ?_ | refine bl_drewN ?_ _)))) (by omega) (by omega)).mono ?_
                rintro e wa1 ⟨va1, ua1, rfl, hNa1, hDa1, hba1⟩
                replace hB9 := hB9.below (show Below _ _ wa1 by (repeat (first | exact bl_refl | assumption | (apply bl_then; assumption) | refine bl_alloc ?_ _ | refine bl_drew ?_ | refine bl_drewN ?_ _)))
                replace fhB9 := hB9.facts
                go_wp2_with fail
                refine (bars_any R _ (hR9.below (by (repeat (first | exact bl_refl | assumption | (apply bl_then; assumption) | refine bl_alloc ?_ _ | refine bl_drew ?_ | refine bl_drewN ?_ _)))) (by omega)).mono ?_
                rintro e wb1 ⟨vb1, rfl, hPb1, hbb1⟩
                replace hB9 := hB9.below (show Below _ _ wb1 by (repeat (first | exact bl_refl | assumption | (apply bl_then; assumption) | refine bl_alloc ?_ _ | refine bl_drew ?_ | refine bl_drewN ?_ _)))
                replace fhB9 := hB9.facts
                go_wp2_with fail
                refine (hckR _ ((hNa1.rd bc_len).below (by (repeat (first | exact bl_refl | assumption | (apply bl_then; assumption) | refine bl_alloc ?_ _ | refine bl_drew ?_ | refine bl_drewN ?_ _)))) ((hDa1.rd bc_len).below (by (repeat (first | exact bl_refl | assumption | (apply bl_then; assumption) | refine bl_alloc ?_ _ | refine bl_drew ?_ | refine bl_drewN ?_ _)))) (hPb1.rd bc_len)).mono ?_
                rintro e wd1 ⟨rfl, hbd1⟩
                replace hB9 := hB9.below (show Below _ _ wd1 by (repeat (first | exact bl_refl | assumption | (apply bl_then; assumption) | refine bl_alloc ?_ _ | refine bl_drew ?_ | refine bl_drewN ?_ _)))
                replace fhB9 := hB9.facts
                go_wp2_with fail
                go_meet
                case rel => exact ⟨rfl, by (repeat (first | exact bl_refl | assumption | (apply bl_then; assumption) | refine bl_alloc ?_ _ | refine bl_drew ?_ | refine bl_drewN ?_ _))⟩
            · as_aux_lemma =>
                clear hbn
                have hckR : ∀ {v u z : Value} (w : World), SlB w v N → SlB w u D → SlB w z R → Calls Tryz.prog 47 #[.agg #[v, u], z] w (RV w (.int .i64 0)) := fun w h1 h2 h3 => by
                  have := hck R w h1 h2 h3
                  rwa [hr0] at this
                clear hr0
                clear hck
                go_wp2_with fail
                refine (torn_any N D _ (hN.below (by (repeat (first | exact bl_refl | assumption | (apply bl_then; assumption) | refine bl_alloc ?_ _ | refine bl_drew ?_ | refine bl_drewN ?_ _)))) (hD.below (by (repeat (first | exact bl_refl | assumption | (apply bl_then; assumption) | refine bl_alloc ?_ _ | refine bl_drew ?_ | refine bl_drewN ?_ _)))) (by omega) (by omega)).mono ?_
                rintro e wa1 ⟨va1, ua1, rfl, hNa1, hDa1, hba1⟩
                replace hB9 := hB9.below (show Below _ _ wa1 by (repeat (first | exact bl_refl | assumption | (apply bl_then; assumption) | refine bl_alloc ?_ _ | refine bl_drew ?_ | refine bl_drewN ?_ _)))
                replace fhB9 := hB9.facts
                go_wp2_with fail
                refine (bars_any R _ (hR9.below (by (repeat (first | exact bl_refl | assumption | (apply bl_then; assumption) | refine bl_alloc ?_ _ | refine bl_drew ?_ | refine bl_drewN ?_ _)))) (by omega)).mono ?_
                rintro e wb1 ⟨vb1, rfl, hPb1, hbb1⟩
                replace hB9 := hB9.below (show Below _ _ wb1 by (repeat (first | exact bl_refl | assumption | (apply bl_then; assumption) | refine bl_alloc ?_ _ | refine bl_drew ?_ | refine bl_drewN ?_ _)))
                replace fhB9 := hB9.facts
                go_wp2_with fail
                refine (hckR _ ((hNa1.rd bc_len).below (by (repeat (first | exact bl_refl | assumption | (apply bl_then; assumption) | refine bl_alloc ?_ _ | refine bl_drew ?_ | refine bl_drewN ?_ _)))) ((hDa1.rd bc_len).below (by (repeat (first | exact bl_refl | assumption | (apply bl_then; assumption) | refine bl_alloc ?_ _ | refine bl_drew ?_ | refine bl_drewN ?_ _)))) (hPb1.rd bc_len)).mono ?_
                rintro e wd1 ⟨rfl, hbd1⟩
                replace hB9 := hB9.below (show Below _ _ wd1 by (repeat (first | exact bl_refl | assumption | (apply bl_then; assumption) | refine bl_alloc ?_ _ | refine bl_drew ?_ | refine bl_drewN ?_ _)))
                replace fhB9 := hB9.facts
                go_wp2_with fail
                go_meet
                case rel => exact ⟨rfl, by (repeat (first | exact bl_refl | assumption | (apply bl_then; assumption) | refine bl_alloc ?_ _ | refine bl_drew ?_ | refine bl_drewN ?_ _))⟩
        · rcases hc1 with ⟨rfl, hl0, hall⟩ | rfl
          · rcases hc3 with rfl | ⟨rfl, hbn⟩
            · as_aux_lemma =>
                clear hall
                have hckL : ∀ {v u z : Value} (w : World), SlB w v N → SlB w u D → SlB w z L → Calls Tryz.prog 47 #[.agg #[v, u], z] w (RV w (.int .i64 0)) := fun w h1 h2 h3 => by
                  have := hck L w h1 h2 h3
                  rwa [hl0] at this
                clear hl0
                clear hck
                go_wp2_with fail
                refine (torn_any N D _ (hN.below (by (repeat (first | exact bl_refl | assumption | (apply bl_then; assumption) | refine bl_alloc ?_ _ | refine bl_drew ?_ | refine bl_drewN ?_ _)))) (hD.below (by (repeat (first | exact bl_refl | assumption | (apply bl_then; assumption) | refine bl_alloc ?_ _ | refine bl_drew ?_ | refine bl_drewN ?_ _)))) (by omega) (by omega)).mono ?_
                rintro e wa2 ⟨va2, ua2, rfl, hNa2, hDa2, hba2⟩
                replace hB9 := hB9.below (show Below _ _ wa2 by (repeat (first | exact bl_refl | assumption | (apply bl_then; assumption) | refine bl_alloc ?_ _ | refine bl_drew ?_ | refine bl_drewN ?_ _)))
                replace fhB9 := hB9.facts
                go_wp2_with fail
                refine (bars_any L _ (hL9.below (by (repeat (first | exact bl_refl | assumption | (apply bl_then; assumption) | refine bl_alloc ?_ _ | refine bl_drew ?_ | refine bl_drewN ?_ _)))) (by omega)).mono ?_
                rintro e wb2 ⟨vb2, rfl, hPb2, hbb2⟩
                replace hB9 := hB9.below (show Below _ _ wb2 by (repeat (first | exact bl_refl | assumption | (apply bl_then; assumption) | refine bl_alloc ?_ _ | refine bl_drew ?_ | refine bl_drewN ?_ _)))
                replace fhB9 := hB9.facts
                go_wp2_with fail
                refine (hckL _ ((hNa2.rd bc_len).below (by (repeat (first | exact bl_refl | assumption | (apply bl_then; assumption) | refine bl_alloc ?_ _ | refine bl_drew ?_ | refine bl_drewN ?_ _)))) ((hDa2.rd bc_len).below (by (repeat (first | exact bl_refl | assumption | (apply bl_then; assumption) | refine bl_alloc ?_ _ | refine bl_drew ?_ | refine bl_drewN ?_ _)))) (hPb2.rd bc_len)).mono ?_
                rintro e wd2 ⟨rfl, hbd2⟩
                replace hB9 := hB9.below (show Below _ _ wd2 by (repeat (first | exact bl_refl | assumption | (apply bl_then; assumption) | refine bl_alloc ?_ _ | refine bl_drew ?_ | refine bl_drewN ?_ _)))
                replace fhB9 := hB9.facts
                go_wp2_with fail
                go_meet
                case rel => exact ⟨rfl, by (repeat (first | exact bl_refl | assumption | (apply bl_then; assumption) | refine bl_alloc ?_ _ | refine bl_drew ?_ | refine bl_drewN ?_ _))⟩
            · as_aux_lemma =>
                have hbn' : ((L.length : Int) < Bn) = False := by have := hbn rfl; simp; omega
                clear hall hbn
                have hckL : ∀ {v u z : Value} (w : World), SlB w v N → SlB w u D → SlB w z L → Calls Tryz.prog 47 #[.agg #[v, u], z] w (RV w (.int .i64 0)) := fun w h1 h2 h3 => by
                  have := hck L w h1 h2 h3
                  rwa [hl0] at this
                clear hl0
                clear hck
                go_wp2_with fail
                refine (torn_any N D _ (hN.below (by (repeat (first | exact bl_refl | assumption | (apply bl_then; assumption) | refine bl_alloc ?_ _ | refine bl_drew ?_ | refine bl_drewN ?_ _)))) (hD.below (by (repeat (first | exact bl_refl | assumption | (apply bl_then; assumption) | refine bl_alloc ?_ _ | refine bl_drew ?_ | refine bl_drewN ?_ _)))) (by omega) (by omega)).mono ?_
                rintro e wa2 ⟨va2, ua2, rfl, hNa2, hDa2, hba2⟩
                replace hB9 := hB9.below (show Below _ _ wa2 by (repeat (first | exact bl_refl | assumption | (apply bl_then; assumption) | refine bl_alloc ?_ _ | refine bl_drew ?_ | refine bl_drewN ?_ _)))
                replace fhB9 := hB9.facts
                go_wp2_with fail
                refine (bars_any L _ (hL9.below (by (repeat (first | exact bl_refl | assumption | (apply bl_then; assumption) | refine bl_alloc ?_ _ | refine bl_drew ?_ | refine bl_drewN ?_ _)))) (by omega)).mono ?_
                rintro e wb2 ⟨vb2, rfl, hPb2, hbb2⟩
                replace hB9 := hB9.below (show Below _ _ wb2 by (repeat (first | exact bl_refl | assumption | (apply bl_then; assumption) | refine bl_alloc ?_ _ | refine bl_drew ?_ | refine bl_drewN ?_ _)))
                replace fhB9 := hB9.facts
                go_wp2_with fail
                refine (hckL _ ((hNa2.rd bc_len).below (by (repeat (first | exact bl_refl | assumption | (apply bl_then; assumption) | refine bl_alloc ?_ _ | refine bl_drew ?_ | refine bl_drewN ?_ _)))) ((hDa2.rd bc_len).below (by (repeat (first | exact bl_refl | assumption | (apply bl_then; assumption) | refine bl_alloc ?_ _ | refine bl_drew ?_ | refine bl_drewN ?_ _)))) (hPb2.rd bc_len)).mono ?_
                rintro e wd2 ⟨rfl, hbd2⟩
                replace hB9 := hB9.below (show Below _ _ wd2 by (repeat (first | exact bl_refl | assumption | (apply bl_then; assumption) | refine bl_alloc ?_ _ | refine bl_drew ?_ | refine bl_drewN ?_ _)))
                replace fhB9 := hB9.facts
                go_wp2_with fail
                go_meet
                case rel => exact ⟨rfl, by (repeat (first | exact bl_refl | assumption | (apply bl_then; assumption) | refine bl_alloc ?_ _ | refine bl_drew ?_ | refine bl_drewN ?_ _))⟩
          · rcases hc3 with rfl | ⟨rfl, hbn⟩
            · as_aux_lemma =>
                clear hck
                go_wp2_with fail
                go_meet
                case rel => exact ⟨rfl, by (repeat (first | exact bl_refl | assumption | (apply bl_then; assumption) | refine bl_alloc ?_ _ | refine bl_drew ?_ | refine bl_drewN ?_ _))⟩
            · as_aux_lemma =>
                clear hbn
                clear hck
                go_wp2_with fail
                go_meet
                case rel => exact ⟨rfl, by (repeat (first | exact bl_refl | assumption | (apply bl_then; assumption) | refine bl_alloc ?_ _ | refine bl_drew ?_ | refine bl_drewN ?_ _))⟩
      case rest =>
        as_aux_lemma =>
          obtain ⟨rfl, hbc2⟩ := hcut
          obtain ⟨w10, rfl⟩ : ∃ x, x = wc := ⟨_, rfl⟩
          replace hB9 := hB9.below hbc2
          replace fhB := hB9.facts
          replace hL9 := hL9.below hbc2
          replace hS9 := hS9.below hbc2
          replace hbw9 := bl_then hbc2 hbw9
          clear hR9 hbc2 HLB HRF HNC
          obtain ⟨M, hM1, hM2⟩ : ∃ M : Nat, (E1 = 0 → M = L.length) ∧ (E1 ≠ 0 → M = 3) := ⟨if E1 = 0 then L.length else 3, fun h => if_pos h, fun h => if_neg h⟩
          have HM : Hid (∀ T, trimE N D T = 0 → M ≤ T.length) := by
            rcases HLF.out with h | h
            · rw [hM1 h.1]; exact h.2.2.2.2.1
            · rw [hM2 (by rw [h.1]; decide)]; exact fun T hT => h.2.2 T hT
          have hc1 : (E1 = 0 ∧ M = L.length) ∨ (E1 = 23 ∧ M = 3) := by
            rcases HLF.out with h | h
            · exact .inl ⟨h.1, hM1 h.1⟩
            · exact .inr ⟨h.1, hM2 (by rw [h.1]; decide)⟩
          clear hM1 hM2
          go_upto_if 125 with fail
          go_cut [10] from 15 (fun s wx => s = .int .i64 (M : Int) ∧ Below w10.heap.size w10 wx)
          case first =>
            rcases hc1 with ⟨rfl, hm⟩ | ⟨rfl, hm⟩
            · have HMM := Lib.hid hm
              clear hm HM HLF
              go_wp2_with fail
              go_meet
              case rel => exact ⟨by rw [HMM.out], by (repeat (first | exact bl_refl | assumption | (apply bl_then; assumption) | refine bl_alloc ?_ _ | refine bl_drew ?_ | refine bl_drewN ?_ _))⟩
            · have HMM := Lib.hid hm
              clear hm HM HLF
              go_wp2_with fail
              go_meet
              case rel => exact ⟨by rw [HMM.out]; rfl, by (repeat (first | exact bl_refl | assumption | (apply bl_then; assumption) | refine bl_alloc ?_ _ | refine bl_drew ?_ | refine bl_drewN ?_ _))⟩
          case rest =>
            obtain ⟨rfl, hbc3⟩ := hcut
            obtain ⟨w11, rfl⟩ : ∃ x, x = wc := ⟨_, rfl⟩
            replace hB9 := hB9.below hbc3
            replace fhB := hB9.facts
            replace hL9 := hL9.below hbc3
            replace hS9 := hS9.below hbc3
            replace hbw9 := bl_then hbc3 hbw9
            clear hbc3 hc1
            go_upto_region 14 with fail
            go_cut [135] from 15 (fun s wx => s = .bool false ∧ Below w11.heap.size w11 wx)
            case first =>
              cases M with
              | succ m =>
                obtain ⟨t0, ht0⟩ : ∃ t, trimE N D [] = t := ⟨_, rfl⟩
                have htz : (t0 == 0) = false := by
                  cases h : t0 == 0 with
                  | false => rfl
                  | true =>
                    have h1 : t0 = 0 := by simpa using h
                    have := HM.out [] (by rw [ht0]; exact h1)
                    simp at this
                have hck0 : ∀ {v u z : Value} (w : World), SlB w v N → SlB w u D → SlB w z [] → Calls Tryz.prog 47 #[.agg #[v, u], z] w (RV w (.int .i64 t0)) := fun w h1 h2 h3 => by
                  have := hck [] w h1 h2 h3
                  rwa [ht0] at this
                clear ht0 hck HM HLF HSD
                go_wp2_with fail
                refine (torn_any N D _ (hN.below (by (repeat (first | exact bl_refl | assumption | (apply bl_then; assumption) | refine bl_alloc ?_ _ | refine bl_drew ?_ | refine bl_drewN ?_ _)))) (hD.below (by (repeat (first | exact bl_refl | assumption | (apply bl_then; assumption) | refine bl_alloc ?_ _ | refine bl_drew ?_ | refine bl_drewN ?_ _)))) (by omega) (by omega)).mono ?_
                rintro e wa ⟨va, ua, rfl, hNa, hDa, hba⟩
                replace hB9 := hB9.below (show Below _ _ wa by (repeat (first | exact bl_refl | assumption | (apply bl_then; assumption) | refine bl_alloc ?_ _ | refine bl_drew ?_ | refine bl_drewN ?_ _)))
                replace fhB9 := hB9.facts
                go_wp2_with fail
                refine (hck0 _ (hNa.rd bc_len) (hDa.rd bc_len) Sl.nil_).mono ?_
                rintro e wd ⟨rfl, hbd⟩
                go_wp2_with fail
                go_meet
                case rel => exact ⟨rfl, by (repeat (first | exact bl_refl | assumption | (apply bl_then; assumption) | refine bl_alloc ?_ _ | refine bl_drew ?_ | refine bl_drewN ?_ _))⟩
              | zero =>
                clear HM HLF HSD
                go_wp2_with fail
                go_meet
                case rel => exact ⟨rfl, by (repeat (first | exact bl_refl | assumption | (apply bl_then; assumption) | refine bl_alloc ?_ _ | refine bl_drew ?_ | refine bl_drewN ?_ _))⟩
            case rest =>
              as_aux_lemma =>
                obtain ⟨rfl, hbc4⟩ := hcut
                obtain ⟨w12, rfl⟩ : ∃ x, x = wc := ⟨_, rfl⟩
                replace hB9 := hB9.below hbc4
                replace fhB := hB9.facts
                replace hL9 := hL9.below hbc4
                replace hS9 := hS9.below hbc4
                replace hbw9 := bl_then hbc4 hbw9
                clear hbc4
                go_wp2_with fail
                go_loopw [138] (fun i wr => ∃ k : Nat, k ≤ S.length ∧ i = .int .i64 k ∧ Below w12.heap.size w12 wr) (fun i _ => S.length - (intOf i).toNat)
                case atStart => exact ⟨0, Nat.zero_le _, rfl, bl_refl⟩
                case round =>
                  obtain ⟨k, hk, rfl, hbr⟩ := hrel
                  obtain ⟨wo, rfl⟩ : ∃ wo, wo = wr := ⟨_, rfl⟩
                  have hBr := hB9.below hbr
                  replace fhB := hBr.facts
                  have hSr := hS9.below hbr
                  have hbwr := bl_then hbr hbw9
                  by_cases hlt : k < S.length
                  · have hSr' := hSr
                    obtain ⟨A', c', e', hlc', hcm', hrd⟩ := hSr'
                    obtain ⟨rfl, rfl⟩ : A8 = A' ∧ c8 = c' := by simpa using e'
                    clear e'
                    obtain ⟨bS, oS, rfl, hbS, s0, s1, s2⟩ := hrd.bar hlt
                    have hmid := sl_mid hrd hlt hlc' hcm'
                    clear s0 s1 s2
                    go_upto_region 19 with fail
                    go_cut [153] from 139 to 178 (fun s wx => s = .bool false ∧ Below wo.heap.size wo wx)
                    case first =>
                      as_aux_lemma =>
                        by_cases h1 : 1 < M
                        · have h1' : ((1 : Int) < (M : Int)) = True := by simp; omega
                          obtain ⟨t0, ht0⟩ : ∃ t, trimE N D [S[k]] = t := ⟨_, rfl⟩
                          have htz : (t0 == 0) = false := by
                            cases h : t0 == 0 with
                            | false => rfl
                            | true =>
                              have h1 : t0 = 0 := by simpa using h
                              have := HM.out [S[k]] (by rw [ht0]; exact h1)
                              simp at this; omega
                          have hck0 : ∀ {v u z : Value} (w : World), SlB w v N → SlB w u D → SlB w z [S[k]] → Calls Tryz.prog 47 #[.agg #[v, u], z] w (RV w (.int .i64 t0)) := fun w h1 h2 h3 => by
                            have := hck [S[k]] w h1 h2 h3
                            rwa [ht0] at this
                          clear ht0 hck h1 HM HLF HSD
                          refine wp_region_ords [0, 1, 2, 3, 5, 6, 7, 8, 9] [(4, false)] [10, 11, 12] (by kernel_rfl) (by kernel_rfl) (fun d _ _ _ _ h => by cases d <;> exact h) ?_
                          simp only [List.map_cons, List.map_nil, List.getD_cons_zero, List.getD_cons_succ]
                          repeat (go_big_quiet_step (fail))
                          refine wpQuiet_nil ?_
                          refine wpMid_run rfl (fun K hK => ?_)
                          go_simp
                          refine (torn_any N D _ (hN.below (by (repeat (first | exact bl_refl | assumption | (apply bl_then; assumption) | refine bl_alloc ?_ _ | refine bl_drew ?_ | refine bl_drewN ?_ _)))) (hD.below (by (repeat (first | exact bl_refl | assumption | (apply bl_then; assumption) | refine bl_alloc ?_ _ | refine bl_drew ?_ | refine bl_drewN ?_ _)))) (by omega) (by omega)).mono ?_
                          rintro e wa ⟨va, ua, rfl, hNa, hDa, hba⟩
                          refine hK _ _ (by (repeat (first | exact bl_refl | assumption | (apply bl_then; assumption) | refine bl_alloc ?_ _ | refine bl_drew ?_ | refine bl_drewN ?_ _))) ?_
                          clear hK K
                          refine wpMid_nil ?_
                          go_wp2_with fail
                          refine (hck0 _ ((hNa.rd bc_len).below (by (repeat (first | exact bl_refl | assumption | (apply bl_then; assumption) | refine bl_alloc ?_ _ | refine bl_drew ?_ | refine bl_drewN ?_ _)))) ((hDa.rd bc_len).below (by (repeat (first | exact bl_refl | assumption | (apply bl_then; assumption) | refine bl_alloc ?_ _ | refine bl_drew ?_ | refine bl_drewN ?_ _)))) (hmid.below (by (repeat (first | exact bl_refl | assumption | (apply bl_then; assumption) | refine bl_alloc ?_ _ | refine bl_drew ?_ | refine bl_drewN ?_ _))))).mono ?_
                          rintro e wd ⟨rfl, hbd⟩
                          go_wp2_with fail
                          go_meet
                          case rel => exact ⟨rfl, by (repeat (first | exact bl_refl | assumption | (apply bl_then; assumption) | refine bl_alloc ?_ _ | refine bl_drew ?_ | refine bl_drewN ?_ _))⟩
                        · have h1' : ((1 : Int) < (M : Int)) = False := by simp; omega
                          clear h1 HM HLF HSD hck
                          refine wp_region_ords [0, 1, 2, 3, 5, 6, 7, 8, 9] [(4, false)] [10, 11, 12] (by kernel_rfl) (by kernel_rfl) (fun d _ _ _ _ h => by cases d <;> exact h) ?_
                          simp only [List.map_cons, List.map_nil, List.getD_cons_zero, List.getD_cons_succ]
                          repeat (go_big_quiet_step (fail))
                          refine wpQuiet_nil ?_
                          refine wpMid_skipF (by kernel_rfl) ?_
                          intro K hK
                          simp only [Act.put, List.setIfInBounds_toArray, List.set_cons_zero, List.set_cons_succ]
                          refine hK _ ?_
                          clear hK K
                          refine wpMid_nil ?_
                          go_wp2_with fail
                          go_meet
                          case rel => exact ⟨rfl, by (repeat (first | exact bl_refl | assumption | (apply bl_then; assumption) | refine bl_alloc ?_ _ | refine bl_drew ?_ | refine bl_drewN ?_ _))⟩
                    case rest =>
                      as_aux_lemma =>
                        obtain ⟨rfl, hbc5⟩ := hcut
                        obtain ⟨wi, rfl⟩ : ∃ x, x = wc := ⟨_, rfl⟩
                        have hBi := hBr.below hbc5
                        replace fhB := hBi.facts
                        have hSi := hSr.below hbc5
                        have hbwi := bl_then hbc5 hbwr
                        have hbi := bl_then hbc5 hbr
                        go_wp2_with fail
                        go_loopw [12] (fun j wr => ∃ m : Nat, k < m ∧ m ≤ S.length ∧ j = .int .i64 m ∧ Below wi.heap.size wi wr) (fun j _ => S.length - (intOf j).toNat)
                        case atStart => exact ⟨k + 1, by omega, by omega, by go_num, bl_refl⟩
                        case round =>
                          obtain ⟨m, hkm, hmS, rfl, hbr2⟩ := hrel
                          have hB2 := hBi.below hbr2
                          replace fhB := hB2.facts
                          have hS2 := hSi.below hbr2
                          have hbw2 := bl_then hbr2 hbwi
                          by_cases h2 : 2 < M
                          · have h2' : ((2 : Int) < (M : Int)) = True := by simp; omega
                            by_cases hm2 : m < S.length
                            · have hm2' : ((m : Int) < (S.length : Int)) = True := by simp; omega
                              have hS2' := hS2
                              obtain ⟨A', c', e', _, _, hrd2⟩ := hS2'
                              obtain ⟨rfl, rfl⟩ : some (⟨bS, oS, none⟩ : Addr) = A' ∧ c8 = c' := by simpa using e'
                              clear e'
                              have hbk := hrd2.barAt hlt
                              have hbm := hrd2.barAt hm2
                              obtain ⟨_, k0, k1, k2⟩ := hbk
                              obtain ⟨hbb, m0, m1, m2⟩ := hbm
                              obtain ⟨t0, ht0⟩ : ∃ t, trimE N D [S[k], S[m]] = t := ⟨_, rfl⟩
                              have htz : (t0 == 0) = false := by
                                cases h : t0 == 0 with
                                | false => rfl
                                | true =>
                                  have h1 : t0 = 0 := by simpa using h
                                  have := HM.out [S[k], S[m]] (by rw [ht0]; exact h1)
                                  simp at this; omega
                              have hck0 : ∀ {v u z : Value} (w : World), SlB w v N → SlB w u D → SlB w z [S[k], S[m]] → Calls Tryz.prog 47 #[.agg #[v, u], z] w (RV w (.int .i64 t0)) := fun w h1 h2 h3 => by
                                have := hck [S[k], S[m]] w h1 h2 h3
                                rwa [ht0] at this
                              clear ht0 hck h2 HM HLF HSD
                              go_upto_region 24 with fail
                              as_aux_lemma =>
                                refine wp_region_facts (lsF N D [S[k], S[m]]) [0, 2, 3, 4, 5, 6, 7, 8, 9] [] [1, 10] [11, 12] (by decide) (by kernel_rfl) (by kernel_rfl) (fun d _ _ _ _ h => by cases d <;> exact h) (lsF_st N D [S[k], S[m]]) ?_
                                simp only [List.map_cons, List.map_nil, List.getD_cons_zero, List.getD_cons_succ]
                                repeat (go_big_quiet_step (fail))
                                refine wpQuiet_nil ⟨List.forall_mem_cons.2 ⟨?_, List.forall_mem_cons.2 ⟨?_, List.forall_mem_nil _⟩⟩, ?_⟩
                                · intro vals W hbW hF
                                  refine facts_step (fun K hK => ?_)
                                  simp only [putAll, Array.getD_eq_getD_getElem?, List.getElem?_toArray, List.getElem?_cons_succ, List.getElem?_cons_zero, Option.getD_some, List.getD_cons_succ, List.getD_cons_zero, Act.put, List.setIfInBounds_toArray, List.set_cons_zero, List.set_cons_succ]
                                  go_simp
                                  refine (torn_any N D _ (hN.below (by (repeat (first | exact bl_refl | assumption | (apply bl_then; assumption) | refine bl_alloc ?_ _ | refine bl_drew ?_ | refine bl_drewN ?_ _)))) (hD.below (by (repeat (first | exact bl_refl | assumption | (apply bl_then; assumption) | refine bl_alloc ?_ _ | refine bl_drew ?_ | refine bl_drewN ?_ _)))) (by omega) (by omega)).mono ?_
                                  rintro e wa ⟨va, ua, rfl, hNa, hDa, hba⟩
                                  exact hK _ _ _ rfl hba ⟨fun _ => ⟨_, _, rfl, hNa.rd bc_len, hDa.rd bc_len⟩, fun h => by simp at h⟩ (fun h => by simp at h)
                                · intro vals W hbW hF
                                  refine facts_step (fun K hK => ?_)
                                  refine op_two (b := S[k]'hlt) (c := S[m]'hm2) rfl (by kernel_rfl) (by kernel_rfl) ?_
                                  exact hK _ _ _ rfl (bl_alloc bl_refl _) ⟨fun h => by simp at h, fun _ => sl_two _ _ _⟩ (fun h => by simp at h)
                                · intro vals W hbW hF hAp
                                  simp only [putAll, Array.getD_eq_getD_getElem?, List.getElem?_toArray, List.getElem?_cons_succ, List.getElem?_cons_zero, Option.getD_some, Act.put, List.setIfInBounds_toArray, List.set_cons_zero, List.set_cons_succ]
                                  obtain ⟨va, ub, e1, oa, ob⟩ := (hF 1 (by simp)).1 rfl
                                  have o10 := (hF 10 (by simp)).2 rfl
                                  obtain ⟨A10, c10, e10, _, _, _⟩ := id o10
                                  rw [e10] at o10
                                  simp only [e1, e10]
                                  clear hF hAp e1 e10
                                  go_wp2_with fail
                                  refine (hck0 _ (oa.below (by (repeat (first | exact bl_refl | assumption | (apply bl_then; assumption) | refine bl_alloc ?_ _ | refine bl_drew ?_ | refine bl_drewN ?_ _)))) (ob.below (by (repeat (first | exact bl_refl | assumption | (apply bl_then; assumption) | refine bl_alloc ?_ _ | refine bl_drew ?_ | refine bl_drewN ?_ _)))) (o10.below (by (repeat (first | exact bl_refl | assumption | (apply bl_then; assumption) | refine bl_alloc ?_ _ | refine bl_drew ?_ | refine bl_drewN ?_ _))))).mono ?_
                                  rintro e wd ⟨rfl, hbd⟩
                                  go_wp2_with fail
                                  go_roundw
                                  case rel => exact ⟨m + 1, by omega, by omega, by go_num, by (repeat (first | exact bl_refl | assumption | (apply bl_then; assumption) | refine bl_alloc ?_ _ | refine bl_drew ?_ | refine bl_drewN ?_ _))⟩
                                  case measure => simp [intOf]; omega
                            · have hm2' : ((m : Int) < (S.length : Int)) = False := by simp; omega
                              clear HM HLF HSD hck h2
                              go_wp2_with fail
                              go_roundw
                              case rel => exact ⟨k + 1, by omega, by go_num, bl_then hbr2 hbi⟩
                              case measure => simp [intOf]; omega
                          · have h2' : ((2 : Int) < (M : Int)) = False := by simp; omega
                            clear HM HLF HSD hck h2
                            go_wp2_with fail
                            go_roundw
                            case rel => exact ⟨k + 1, by omega, by go_num, bl_then hbr2 hbi⟩
                            case measure => simp [intOf]; omega
                  · have hkl : k = S.length := by omega
                    have hlt' : ((k : Int) < (S.length : Int)) = False := by simp; omega
                    clear hkl hlt
                    go_wp2_with fail
                    as_aux_lemma =>
                      have hLr := hL9.below hbr
                      have hlex : L ≠ [] → ∀ T, trimE N D T = 0 → T.length = L.length → lexB L T := fun h T h1 h2 => by
                        rcases HLF.out with g | g
                        · exact g.2.2.2.2.2 T h1 h2
                        · exact absurd g.2.1 h
                      have hLS : ∀ y ∈ L, y ∈ S := fun y hy => by
                        rcases HLF.out with g | g
                        · have := (tz_to hE g.2.2.1).1.subset hy
                          rwa [HSD.out] at this
                        · rw [g.2.1] at hy; cases hy
                      clear HLF HSD HM hL9 hS9 hB9 hbw9 hbr
                      have hSr' := hSr
                      obtain ⟨A', c', e', hlc', hcm', hrd⟩ := hSr'
                      obtain ⟨rfl, rfl⟩ : A8 = A' ∧ c8 = c' := by simpa using e'
                      clear e'
                      rcases L with _ | ⟨⟨ax, ay, az⟩, _ | ⟨⟨bx, bY, bz⟩, _ | ⟨_, _⟩⟩⟩
                      · simp only [List.length_nil]
                        clear hlex hLS hLr hck
                        go_loopw [182] (fun i wr => ∃ k : Nat, k ≤ S.length ∧ i = .int .i64 k ∧ Below wo.heap.size wo wr) (fun i _ => S.length - (intOf i).toNat)
                        case atStart => exact ⟨0, Nat.zero_le _, rfl, bl_refl⟩
                        case round =>
                          obtain ⟨k, hk, rfl, hbr⟩ := hrel
                          by_cases hlt : k < S.length
                          · obtain ⟨bS, oS, rfl, hbS, s0, s1, s2⟩ := (hrd.below hbr).bar hlt
                            go_upto_region 30 with fail
                            refine wp_region_ords [0, 1, 2, 3, 4, 5, 6, 7, 8, 9, 10, 11, 12] [] [] (by kernel_rfl) (by kernel_rfl) (fun d _ _ _ _ h => by cases d <;> exact h) ?_
                            simp only [List.map_cons, List.map_nil, List.getD_cons_zero, List.getD_cons_succ]
                            repeat (go_big_quiet_step (fail))
                            refine wpQuiet_nil ?_
                            refine wpMid_nil ?_
                            go_wp2_with fail
                            refine (awake_any _).mono ?_
                            rintro e wz ⟨rfl, hbz⟩
                            go_wp2
                            go_ret
                            exact ⟨rfl, by (repeat (first | exact bl_refl | assumption | (apply bl_then; assumption) | refine bl_alloc ?_ _ | refine bl_drew ?_ | refine bl_drewN ?_ _))⟩
                          · have hlt' : ((k : Int) < (S.length : Int)) = False := eq_false (by omega)
                            go_wp2_with fail
                            refine (awake_any _).mono ?_
                            rintro e wz ⟨rfl, hbz⟩
                            go_wp2
                            go_ret
                            exact ⟨rfl, by (repeat (first | exact bl_refl | assumption | (apply bl_then; assumption) | refine bl_alloc ?_ _ | refine bl_drew ?_ | refine bl_drewN ?_ _))⟩
                      · simp only [List.length_cons, List.length_nil, Nat.zero_add] at hLr ⊢
                        go_loopw [182] (fun i wr => ∃ k : Nat, k ≤ S.length ∧ i = .int .i64 k ∧ Hid (∀ (j : Nat) (h : j < S.length), j < k → S[j] ≠ (ax, ay, az)) ∧ Below wo.heap.size wo wr) (fun i _ => S.length - (intOf i).toNat)
                        case atStart => exact ⟨0, Nat.zero_le _, rfl, fun j _ h => by omega, bl_refl⟩
                        case round =>
                          obtain ⟨k, hk, rfl, HK, hbr⟩ := hrel
                          by_cases hlt : k < S.length
                          · obtain ⟨bS, oS, rfl, hbS, s0, s1, s2⟩ := (hrd.below hbr).bar hlt
                            obtain ⟨⟨x, y, s⟩, hx⟩ : ∃ z, S[k] = z := ⟨_, rfl⟩
                            rw [hx] at s0 s1 s2
                            simp only at s0 s1 s2
                            have HX := Lib.hid hx
                            clear hx
                            have hX := Blk.new wr 70 #[.int .i64 x, .int .i64 y, .int .i64 s]
                            have fX := hX.facts
                            have hBw := hBr.below hbr
                            have fBw := hBw.facts
                            have hLa := (hLr.below hbr).alloc (.cells #[.int .i64 x, .int .i64 y, .int .i64 s] 70)
                            have hTk := sl_take (l := [(ax, ay, az)]) hLa (k := 0) (by simp)
                            simp only [List.take_zero] at hTk
                            obtain ⟨AL, cL, eL, hlcL, hcmL, hrL⟩ := hLr.below hbr
                            obtain ⟨rfl, rfl⟩ : A3 = AL ∧ c3 = cL := by simpa using eL
                            clear eL
                            simp only [List.length_cons, List.length_nil, Nat.zero_add] at hlcL
                            have hcL1 : 1 ≤ c3 := by omega
                            have hcLI : (1 : Int) ≤ (c3 : Int) := by omega
                            have hcL0 : c3 ≠ 0 := by omega
                            obtain ⟨bL, oL, rfl, _⟩ := hrL.bar (k := 0) (by simp)
                            obtain ⟨hbL, a0, a1, a2⟩ := hrL.barAt (k := 0) (by simp)
                            simp only [List.getElem_cons_zero, Nat.zero_mul, Nat.add_zero] at a0 a1 a2
                            obtain ⟨q1, hq1⟩ : ∃ q, beqB x y s ax ay az = q := ⟨_, rfl⟩
                            have hK1 : beqB x y s ax ay az = false → Hid (∀ (j : Nat) (h : j < S.length), j < k + 1 → S[j] ≠ (ax, ay, az)) := fun hq j hj hjk => by
                              by_cases e : j = k
                              · subst e
                                rw [HX.out]
                                intro e
                                rw [beqB_true.2 e] at hq
                                cases hq
                              · exact HK.out j hj (by omega)
                            cases q1
                            · obtain ⟨t0, ht0⟩ : ∃ t, trimE N D (insB ([] : List Bar) (x, y, s)) = t := ⟨_, rfl⟩
                              have htz : (t0 == 0) = false := by
                                cases h : t0 == 0 with
                                | false => rfl
                                | true =>
                                  have h1 : t0 = 0 := by simpa using h
                                  exfalso
                                  refine least_before (L := [(ax, ay, az)]) (by simp) rfl rfl ?_ ?_ (hlex (by simp) _ (ht0.trans h1) (by rw [insB_len]; simp))
                                  · have hmem : (ax, ay, az) ∈ S := hLS _ (by simp)
                                    obtain ⟨p, hp, hpe⟩ := List.mem_iff_getElem.1 hmem
                                    have hkp : k < p := by
                                      rcases Nat.lt_trichotomy k p with h | h | h
                                      · exact h
                                      · subst h
                                        rw [HX.out] at hpe
                                        rw [beqB_true.2 hpe] at hq1
                                        cases hq1
                                      · exact absurd hpe (HK.out p hp h)
                                    have := List.pairwise_iff_getElem.1 hSs k p hlt hp hkp
                                    rwa [HX.out, hpe] at this
                                  · intro e
                                    rw [beqB_true.2 e] at hq1
                                    cases hq1
                              have hck0 : ∀ {v u z : Value} (w : World), SlB w v N → SlB w u D → SlB w z (insB ([] : List Bar) (x, y, s)) → Calls Tryz.prog 47 #[.agg #[v, u], z] w (RV w (.int .i64 t0)) := fun w h1 h2 h3 => by
                                have := hck _ w h1 h2 h3
                                rwa [ht0] at this
                              clear ht0 hck hlex hLS
                              go_upto_region 30 with fail
                              refine wp_region_ords [0, 1, 2, 3, 4, 5, 6, 7, 8, 9, 10, 11, 12] [] [] (by kernel_rfl) (by kernel_rfl) (fun d _ _ _ _ h => by cases d <;> exact h) ?_
                              simp only [List.map_cons, List.map_nil, List.getD_cons_zero, List.getD_cons_succ]
                              repeat (go_big_quiet_step (fail))
                              refine wpQuiet_nil ?_
                              refine wpMid_nil ?_
                              go_upto_region 31 with fail
                              refine wp_region_ords [0, 1, 2, 3, 4] [] [] (by kernel_rfl) (by kernel_rfl) (fun d _ _ _ _ h => by cases d <;> exact h) ?_
                              simp only [List.map_cons, List.map_nil, List.getD_cons_zero, List.getD_cons_succ]
                              repeat (go_big_quiet_step (fail))
                              refine wpQuiet_nil ?_
                              refine wpMid_nil ?_
                              go_upto_region 32 with fail
                              refine wp_region_ords [0, 2, 3, 4, 5, 6, 7] [(1, false)] [8, 9, 10] (by kernel_rfl) (by kernel_rfl) (fun d _ _ _ _ h => by cases d <;> exact h) ?_
                              simp only [List.map_cons, List.map_nil, List.getD_cons_zero, List.getD_cons_succ]
                              repeat (go_big_quiet_step (fail))
                              refine wpQuiet_nil ?_
                              refine wpMid_run rfl (fun K hK => ?_)
                              go_simp
                              refine (torn_any N D _ (hN.below (by (repeat (first | exact bl_refl | assumption | (apply bl_then; assumption) | refine bl_alloc ?_ _ | refine bl_drew ?_ | refine bl_drewN ?_ _)))) (hD.below (by (repeat (first | exact bl_refl | assumption | (apply bl_then; assumption) | refine bl_alloc ?_ _ | refine bl_drew ?_ | refine bl_drewN ?_ _)))) (by omega) (by omega)).mono ?_
                              rintro e wa ⟨va, ua, rfl, hNa, hDa, hba⟩
                              refine hK _ _ (by (repeat (first | exact bl_refl | assumption | (apply bl_then; assumption) | refine bl_alloc ?_ _ | refine bl_drew ?_ | refine bl_drewN ?_ _))) ?_
                              clear hK K
                              have hX_wa := hX.below (show Below _ _ wa by (repeat (first | exact bl_refl | assumption | (apply bl_then; assumption) | refine bl_alloc ?_ _ | refine bl_drew ?_ | refine bl_drewN ?_ _)))
                              have fhX_wa := hX_wa.facts
                              refine wpMid_nil ?_
                              go_wp2_with fail
                              refine (rwith_any ([] : List Bar) x y s _ (hTk.below (by (repeat (first | exact bl_refl | assumption | (apply bl_then; assumption) | refine bl_alloc ?_ _ | refine bl_drew ?_ | refine bl_drewN ?_ _)))) (by simp)).mono ?_
                              rintro e wb ⟨vb, rfl, hWb, hbb⟩
                              go_wp2_with fail
                              refine (hck0 _ ((hNa.rd bc_len).below (by (repeat (first | exact bl_refl | assumption | (apply bl_then; assumption) | refine bl_alloc ?_ _ | refine bl_drew ?_ | refine bl_drewN ?_ _)))) ((hDa.rd bc_len).below (by (repeat (first | exact bl_refl | assumption | (apply bl_then; assumption) | refine bl_alloc ?_ _ | refine bl_drew ?_ | refine bl_drewN ?_ _)))) (hWb.rd bc_len)).mono ?_
                              rintro e wd ⟨rfl, hbd⟩
                              go_wp2_with fail
                              go_roundw
                              case rel => exact ⟨k + 1, by omega, by go_num, hK1 hq1, by (repeat (first | exact bl_refl | assumption | (apply bl_then; assumption) | refine bl_alloc ?_ _ | refine bl_drew ?_ | refine bl_drewN ?_ _))⟩
                              case measure => simp [intOf]; omega
                            · clear hck hlex hLS hK1
                              go_upto_region 30 with fail
                              refine wp_region_ords [0, 1, 2, 3, 4, 5, 6, 7, 8, 9, 10, 11, 12] [] [] (by kernel_rfl) (by kernel_rfl) (fun d _ _ _ _ h => by cases d <;> exact h) ?_
                              simp only [List.map_cons, List.map_nil, List.getD_cons_zero, List.getD_cons_succ]
                              repeat (go_big_quiet_step (fail))
                              refine wpQuiet_nil ?_
                              refine wpMid_nil ?_
                              go_wp2_with fail
                              refine (awake_any _).mono ?_
                              rintro e wz ⟨rfl, hbz⟩
                              go_wp2
                              go_ret
                              exact ⟨rfl, by (repeat (first | exact bl_refl | assumption | (apply bl_then; assumption) | refine bl_alloc ?_ _ | refine bl_drew ?_ | refine bl_drewN ?_ _))⟩
                          · have hlt' : ((k : Int) < (S.length : Int)) = False := eq_false (by omega)
                            clear hck hlex hLS
                            go_wp2_with fail
                            refine (awake_any _).mono ?_
                            rintro e wz ⟨rfl, hbz⟩
                            go_wp2
                            go_ret
                            exact ⟨rfl, by (repeat (first | exact bl_refl | assumption | (apply bl_then; assumption) | refine bl_alloc ?_ _ | refine bl_drew ?_ | refine bl_drewN ?_ _))⟩
                      · simp only [List.length_cons, List.length_nil, Nat.zero_add, Nat.reduceAdd] at hLr ⊢
                        go_loopw [182] (fun i wr => ∃ k : Nat, k ≤ S.length ∧ i = .int .i64 k ∧ Hid (∀ (j : Nat) (h : j < S.length), j < k → S[j] ≠ (bx, bY, bz)) ∧ Below wo.heap.size wo wr) (fun i _ => S.length - (intOf i).toNat)
                        case atStart => exact ⟨0, Nat.zero_le _, rfl, fun j _ h => by omega, bl_refl⟩
                        case round =>
                          obtain ⟨k, hk, rfl, HK, hbr⟩ := hrel
                          by_cases hlt : k < S.length
                          · obtain ⟨bS, oS, rfl, hbS, s0, s1, s2⟩ := (hrd.below hbr).bar hlt
                            obtain ⟨⟨x, y, s⟩, hx⟩ : ∃ z, S[k] = z := ⟨_, rfl⟩
                            rw [hx] at s0 s1 s2
                            simp only at s0 s1 s2
                            have HX := Lib.hid hx
                            clear hx
                            have hX := Blk.new wr 70 #[.int .i64 x, .int .i64 y, .int .i64 s]
                            have fX := hX.facts
                            have hBw := hBr.below hbr
                            have fBw := hBw.facts
                            have hLa := (hLr.below hbr).alloc (.cells #[.int .i64 x, .int .i64 y, .int .i64 s] 70)
                            have hTk := sl_take (l := [(ax, ay, az), (bx, bY, bz)]) hLa (k := 1) (by simp)
                            simp only [List.take_zero, List.take_succ_cons] at hTk
                            obtain ⟨AL, cL, eL, hlcL, hcmL, hrL⟩ := hLr.below hbr
                            obtain ⟨rfl, rfl⟩ : A3 = AL ∧ c3 = cL := by simpa using eL
                            clear eL
                            simp only [List.length_cons, List.length_nil, Nat.zero_add, Nat.reduceAdd] at hlcL
                            have hcL1 : 1 ≤ c3 := by omega
                            have hcLI : (1 : Int) ≤ (c3 : Int) := by omega
                            have hcL0 : c3 ≠ 0 := by omega
                            obtain ⟨bL, oL, rfl, _⟩ := hrL.bar (k := 0) (by simp)
                            obtain ⟨hbL, a0, a1, a2⟩ := hrL.barAt (k := 0) (by simp)
                            obtain ⟨_, b0, b1, b2⟩ := hrL.barAt (k := 1) (by simp)
                            simp only [List.getElem_cons_zero, List.getElem_cons_succ, Nat.zero_mul, Nat.one_mul, Nat.add_zero] at a0 a1 a2 b0 b1 b2
                            obtain ⟨q1, hq1⟩ : ∃ q, beqB x y s bx bY bz = q := ⟨_, rfl⟩
                            have hK1 : beqB x y s bx bY bz = false → Hid (∀ (j : Nat) (h : j < S.length), j < k + 1 → S[j] ≠ (bx, bY, bz)) := fun hq j hj hjk => by
                              by_cases e : j = k
                              · subst e
                                rw [HX.out]
                                intro e
                                rw [beqB_true.2 e] at hq
                                cases hq
                              · exact HK.out j hj (by omega)
                            cases q1
                            · obtain ⟨q2, hq2⟩ : ∃ q, beqB x y s ax ay az = q := ⟨_, rfl⟩
                              cases q2
                              · obtain ⟨t0, ht0⟩ : ∃ t, trimE N D (insB [(ax, ay, az)] (x, y, s)) = t := ⟨_, rfl⟩
                                have htz : (t0 == 0) = false := by
                                  cases h : t0 == 0 with
                                  | false => rfl
                                  | true =>
                                    have h1 : t0 = 0 := by simpa using h
                                    exfalso
                                    refine least_before (L := [(ax, ay, az), (bx, bY, bz)]) (by simp) rfl rfl ?_ ?_ (hlex (by simp) _ (ht0.trans h1) (by rw [insB_len]; simp))
                                    · have hmem : (bx, bY, bz) ∈ S := hLS _ (by simp)
                                      obtain ⟨p, hp, hpe⟩ := List.mem_iff_getElem.1 hmem
                                      have hkp : k < p := by
                                        rcases Nat.lt_trichotomy k p with h | h | h
                                        · exact h
                                        · subst h
                                          rw [HX.out] at hpe
                                          rw [beqB_true.2 hpe] at hq1
                                          cases hq1
                                        · exact absurd hpe (HK.out p hp h)
                                      have := List.pairwise_iff_getElem.1 hSs k p hlt hp hkp
                                      rwa [HX.out, hpe] at this
                                    · intro e
                                      rw [beqB_true.2 e] at hq2
                                      cases hq2
                                have hck0 : ∀ {v u z : Value} (w : World), SlB w v N → SlB w u D → SlB w z (insB [(ax, ay, az)] (x, y, s)) → Calls Tryz.prog 47 #[.agg #[v, u], z] w (RV w (.int .i64 t0)) := fun w h1 h2 h3 => by
                                  have := hck _ w h1 h2 h3
                                  rwa [ht0] at this
                                clear ht0 hck hlex hLS
                                go_upto_region 30 with fail
                                refine wp_region_ords [0, 1, 2, 3, 4, 5, 6, 7, 8, 9, 10, 11, 12] [] [] (by kernel_rfl) (by kernel_rfl) (fun d _ _ _ _ h => by cases d <;> exact h) ?_
                                simp only [List.map_cons, List.map_nil, List.getD_cons_zero, List.getD_cons_succ]
                                repeat (go_big_quiet_step (fail))
                                refine wpQuiet_nil ?_
                                refine wpMid_nil ?_
                                go_upto_region 31 with fail
                                refine wp_region_ords [0, 1, 2, 3, 4] [] [] (by kernel_rfl) (by kernel_rfl) (fun d _ _ _ _ h => by cases d <;> exact h) ?_
                                simp only [List.map_cons, List.map_nil, List.getD_cons_zero, List.getD_cons_succ]
                                repeat (go_big_quiet_step (fail))
                                refine wpQuiet_nil ?_
                                refine wpMid_nil ?_
                                go_upto_region 32 with fail
                                refine wp_region_ords [0, 2, 3, 4, 5, 6, 7] [(1, false)] [8, 9, 10] (by kernel_rfl) (by kernel_rfl) (fun d _ _ _ _ h => by cases d <;> exact h) ?_
                                simp only [List.map_cons, List.map_nil, List.getD_cons_zero, List.getD_cons_succ]
                                repeat (go_big_quiet_step (fail))
                                refine wpQuiet_nil ?_
                                refine wpMid_run rfl (fun K hK => ?_)
                                go_simp
                                refine (torn_any N D _ (hN.below (by (repeat (first | exact bl_refl | assumption | (apply bl_then; assumption) | refine bl_alloc ?_ _ | refine bl_drew ?_ | refine bl_drewN ?_ _)))) (hD.below (by (repeat (first | exact bl_refl | assumption | (apply bl_then; assumption) | refine bl_alloc ?_ _ | refine bl_drew ?_ | refine bl_drewN ?_ _)))) (by omega) (by omega)).mono ?_
                                rintro e wa ⟨va, ua, rfl, hNa, hDa, hba⟩
                                refine hK _ _ (by (repeat (first | exact bl_refl | assumption | (apply bl_then; assumption) | refine bl_alloc ?_ _ | refine bl_drew ?_ | refine bl_drewN ?_ _))) ?_
                                clear hK K
                                have hX_wa := hX.below (show Below _ _ wa by (repeat (first | exact bl_refl | assumption | (apply bl_then; assumption) | refine bl_alloc ?_ _ | refine bl_drew ?_ | refine bl_drewN ?_ _)))
                                have fhX_wa := hX_wa.facts
                                refine wpMid_nil ?_
                                go_wp2_with fail
                                refine (rwith_any [(ax, ay, az)] x y s _ (hTk.below (by (repeat (first | exact bl_refl | assumption | (apply bl_then; assumption) | refine bl_alloc ?_ _ | refine bl_drew ?_ | refine bl_drewN ?_ _)))) (by simp)).mono ?_
                                rintro e wb ⟨vb, rfl, hWb, hbb⟩
                                go_wp2_with fail
                                refine (hck0 _ ((hNa.rd bc_len).below (by (repeat (first | exact bl_refl | assumption | (apply bl_then; assumption) | refine bl_alloc ?_ _ | refine bl_drew ?_ | refine bl_drewN ?_ _)))) ((hDa.rd bc_len).below (by (repeat (first | exact bl_refl | assumption | (apply bl_then; assumption) | refine bl_alloc ?_ _ | refine bl_drew ?_ | refine bl_drewN ?_ _)))) (hWb.rd bc_len)).mono ?_
                                rintro e wd ⟨rfl, hbd⟩
                                go_wp2_with fail
                                go_roundw
                                case rel => exact ⟨k + 1, by omega, by go_num, hK1 hq1, by (repeat (first | exact bl_refl | assumption | (apply bl_then; assumption) | refine bl_alloc ?_ _ | refine bl_drew ?_ | refine bl_drewN ?_ _))⟩
                                case measure => simp [intOf]; omega
                              · clear hck hlex hLS
                                go_upto_region 30 with fail
                                refine wp_region_ords [0, 1, 2, 3, 4, 5, 6, 7, 8, 9, 10, 11, 12] [] [] (by kernel_rfl) (by kernel_rfl) (fun d _ _ _ _ h => by cases d <;> exact h) ?_
                                simp only [List.map_cons, List.map_nil, List.getD_cons_zero, List.getD_cons_succ]
                                repeat (go_big_quiet_step (fail))
                                refine wpQuiet_nil ?_
                                refine wpMid_nil ?_
                                go_upto_region 31 with fail
                                refine wp_region_ords [0, 1, 2, 3, 4] [] [] (by kernel_rfl) (by kernel_rfl) (fun d _ _ _ _ h => by cases d <;> exact h) ?_
                                simp only [List.map_cons, List.map_nil, List.getD_cons_zero, List.getD_cons_succ]
                                repeat (go_big_quiet_step (fail))
                                refine wpQuiet_nil ?_
                                refine wpMid_nil ?_
                                go_wp2_with fail
                                go_roundw
                                case rel => exact ⟨k + 1, by omega, by go_num, hK1 hq1, by (repeat (first | exact bl_refl | assumption | (apply bl_then; assumption) | refine bl_alloc ?_ _ | refine bl_drew ?_ | refine bl_drewN ?_ _))⟩
                                case measure => simp [intOf]; omega
                            · clear hck hlex hLS hK1
                              go_upto_region 30 with fail
                              refine wp_region_ords [0, 1, 2, 3, 4, 5, 6, 7, 8, 9, 10, 11, 12] [] [] (by kernel_rfl) (by kernel_rfl) (fun d _ _ _ _ h => by cases d <;> exact h) ?_
                              simp only [List.map_cons, List.map_nil, List.getD_cons_zero, List.getD_cons_succ]
                              repeat (go_big_quiet_step (fail))
                              refine wpQuiet_nil ?_
                              refine wpMid_nil ?_
                              go_wp2_with fail
                              refine (awake_any _).mono ?_
                              rintro e wz ⟨rfl, hbz⟩
                              go_wp2
                              go_ret
                              exact ⟨rfl, by (repeat (first | exact bl_refl | assumption | (apply bl_then; assumption) | refine bl_alloc ?_ _ | refine bl_drew ?_ | refine bl_drewN ?_ _))⟩
                          · have hlt' : ((k : Int) < (S.length : Int)) = False := eq_false (by omega)
                            clear hck hlex hLS
                            go_wp2_with fail
                            refine (awake_any _).mono ?_
                            rintro e wz ⟨rfl, hbz⟩
                            go_wp2
                            go_ret
                            exact ⟨rfl, by (repeat (first | exact bl_refl | assumption | (apply bl_then; assumption) | refine bl_alloc ?_ _ | refine bl_drew ?_ | refine bl_drewN ?_ _))⟩
                      · simp at hLl
end Go.Proofs.YthcnngoaijgnoaaGreat

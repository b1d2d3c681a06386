/- The statement MendRestores where the torn net is ready, walked. Conditions: slices that read as lists. -/
import Derived.Test.YthcnngoaijgnoaaGreatK11
import Derived.Test.YthcnngoaijgnoaaGreatLw13aJ
import Derived.Test.YthcnngoaijgnoaaGreatOrdmJ
import Derived.Test.YthcnngoaijgnoaaGreatK04
namespace Go.Proofs.YthcnngoaijgnoaaGreat
open Go.RowKit Go.ChangeMaps
set_option maxHeartbeats 16000000
set_option maxRecDepth 100000

theorem und_kint : Tryz.prog.underlying 97 = some (.map 26 3) := by kernel_rfl
theorem zero_int (w : World) : (zeroValue 3).run Tryz.prog w = .ok (.int .i64 0) w := by kernel_rfl
/-- what the statement asks of a step of the run, with the knots named -/
theorem res_step {N D : List Bar} {W : List Knot} {V : Knot → Nat → Nat} (R : ResAt N D W V) (t : Nat) (h0 : 0 < t) (h1 : t + 1 < W.length) {x y : Int} (hx : W[t] = (x, y)) {n : Nat} (hn : cnt (legsAt D (x, y)) = n) :
    ∃ (x0 y0 x2 y2 : Int) (v0 : Nat), W[t - 1] = (x0, y0) ∧ W[t + 1] = (x2, y2) ∧ V (x, y) t = v0 ∧ V (x, y) (t + 1) = v0 + 1 ∧ 2 * (v0 + 1) ≤ n ∧ (n = 4 → v0 = 0 → y < y0 ∧ y < y2) ∧ (n = 4 → 0 < v0 → y0 < y ∧ y2 < y) ∧ ∀ k, k ≠ (x, y) → V k (t + 1) = V k t := by
  obtain ⟨_, _, k3, k4, k5, k6, k7⟩ := R.step t h0 h1
  rw [hx] at k3 k4 k5 k6 k7
  rw [hn] at k4 k5 k6
  rw [k3] at k4
  exact ⟨_, _, _, _, _, rfl, rfl, rfl, k3, k4, k5, k6, k7⟩
theorem mget_of_mem {κ ν : Type} [DecidableEq κ] : ∀ {m : List (κ × ν × Nat)}, (mkeys m).Nodup → ∀ {x : κ × ν × Nat}, x ∈ m → mget x.1 m = some x.2.1
  | [], _, _, h => by simp at h
  | y :: r, hn, x, h => by
    have hn' : y.1 ∉ mkeys r ∧ (mkeys r).Nodup := by simpa [mkeys] using hn
    unfold mget
    rcases List.mem_cons.1 h with rfl | h1
    · rw [if_pos rfl]
    · rw [if_neg (fun e => hn'.1 (by rw [← e]; exact List.mem_map.2 ⟨x, h1, rfl⟩))]
      exact mget_of_mem hn'.2 h1
theorem mendRestores_yes {v u : Value} (N D : List Bar) (w : World) (hN : SlB w v N) (hD : SlB w u D) (hv : vldB N D 40 = true) (hr : rdyB D = true) : Calls Tryz.prog 12 #[.agg #[v, u]] w (RV w (.bool true)) := by
  have hN' := hN
  obtain ⟨A1, c1, rfl, _, _, hr1⟩ := hN'
  have hD' := hD
  obtain ⟨A2, c2, rfl, hlc2, hcm2, hr2⟩ := hD'
  clear hr1 hr2
  have hl2 : D.length ≤ maxLen := Nat.le_trans hlc2 hcm2
  unfold maxLen at hl2
  have hB := Blk.new w 24 #[.slice A1 N.length c1, .slice A2 D.length c2]
  have fhB := hB.facts
  have hvl : ∀ W (_ : SlB W (.slice A1 N.length c1) N) (_ : SlB W (.slice A2 D.length c2) D), Calls Tryz.prog 30 #[.agg #[.slice A1 N.length c1, .slice A2 D.length c2], .int .i64 40] W (RV W (.bool true)) := fun W hN hD => by
    have := valid_any N D 40 W hN hD
    rwa [hv] at this
  obtain ⟨hs, hE⟩ := vld_ok hv
  obtain ⟨W, hW⟩ : ∃ W, runO D = some W := by
    unfold rdyB at hr
    exact Option.isSome_iff_exists.1 hr
  obtain ⟨V, R⟩ := res_at hE hW
  have hn0 : noneE N D = 0 := by
    unfold noneE
    rw [hE, show decide (D.length = 0) = false by have := R.pos; simp; intro e; subst e; simp at this]
    rfl
  have hru : ∀ {v u : Value} (w : World), SlB w v N → SlB w u D → Calls Tryz.prog 20 #[.agg #[v, u]] w (RKE w W 0) := fun w h1 h2 => by
    have := prun_any N D w h1 h2
    rwa [show runL N D = W by unfold runL; rw [if_pos hn0, hW]; rfl, show runE N D = 0 by unfold runE; rw [if_pos hn0, hr]; rfl] at this
  have hre : ∀ {v u : Value} (w : World), SlB w v N → SlB w u D → Calls Tryz.prog 17 #[.agg #[v, u]] w (RV w (.tuple #[.bool true, .int .i64 0])) := fun w h1 h2 => by
    have := pready_any N D w h1 h2
    rwa [show readyR N D = true by unfold readyR; rw [if_pos hE, hr], hE] at this
  have hod : ∀ {v u : Value} (w : World), SlB w v N → SlB w u D → Calls Tryz.prog 42 #[.agg #[v, u]] w (RKE w (oddK D) 0) := fun w h1 h2 => by
    have := podd_any N D w h1 h2
    rwa [show oddR N D = oddK D by unfold oddR; rw [if_pos hE], hE] at this
  have hcw : ∀ {v : Value} (w : World), SlK w v W → Calls Tryz.prog 65 #[v] w (RV w (.int .i64 0)) := fun w h => by
    have := rcheckWalk_any W w h
    rwa [R.cw] at this
  have hmd : ∀ {v : Value} (w : World), SlK w v W → Calls Tryz.prog 62 #[v] w (RBE w D 0) := fun w h => by
    have := made_any W w h
    rwa [R.made.1, R.made.2] at this
  have hrs : ∀ {v u x : Value} (w : World), SlB w v N → SlB w u D → SlK w x W → Calls Tryz.prog 63 #[.agg #[v, u], x] w (RBE w N 0) := fun w h1 h2 h3 => by
    have := restore_any N D W w h1 h2 h3
    rwa [R.proved, R.rest] at this
  have hcr : ∀ {v u x : Value} (w : World), SlB w v N → SlB w u D → SlK w x W → Calls Tryz.prog 60 #[.agg #[v, u], x] w (RV w (.int .i64 0)) := fun w h1 h2 h3 => by
    have := checkRun_any N D W w h1 h2 h3
    rwa [R.proved] at this
  have hms : ∀ {v u : Value} (k : Knot) (w : World), legsAt D k ≠ noLegs → SlB w v N → SlB w u D → Calls Tryz.prog 52 #[.agg #[v, u], .agg #[.int .i64 k.1, .int .i64 k.2]] w (RV w (.tuple #[.int .i64 (cnt (legsAt D k)), .int .i64 0])) := fun k w h h1 h2 => by
    have := pmissing_any N D k.1 k.2 w h1 h2
    rwa [show missR N D (k.1, k.2) = (cnt (legsAt D k) : Int) from miss_eq hE h, show twoE N D (k.1, k.2) = 0 from two_zero hE h] at this
  have HR := Lib.hid R
  have hlen := R.len
  have hpos := R.pos
  obtain ⟨a, z, ha, hz, hao, hzo, haz⟩ : ∃ a z, W[0]? = some a ∧ W[D.length]? = some z ∧ a ∈ oddK D ∧ z ∈ oddK D ∧ a ≠ z := by
    obtain ⟨a, h1, h2, z, h3, h4, h5⟩ := R.fst
    rw [hlen, Nat.add_sub_cancel] at h3
    exact ⟨a, z, h1, h3, h2, h4, h5⟩
  obtain ⟨p, q, hpq⟩ : ∃ p q, oddK D = [p, q] := by
    have := R.odd2
    match hh : oddK D, this with
    | [p, q], _ => exact ⟨p, q, rfl⟩
  simp only [hpq] at hod hao hzo
  have hcase : (a = p ∧ z = q) ∨ (a = q ∧ z = p) := by
    rcases List.mem_cons.1 hao with h1 | h1
    · rcases List.mem_cons.1 hzo with h2 | h2
      · exact absurd (h1.trans h2.symm) haz
      · exact .inl ⟨h1, by simpa using h2⟩
    · rcases List.mem_cons.1 hzo with h2 | h2
      · exact .inr ⟨by simpa using h1, h2⟩
      · exact absurd ((by simpa using h1 : a = q).trans (by simpa using h2 : z = q).symm) haz
  have hw40 : W.length ≤ 41 := by omega
  have hlI : ((W.length : Int) != (D.length : Int) + 1) = false := by simp; omega
  have hl1 : (W.length : Int) - 1 = (D.length : Int) := by omega
  have HLEN := Lib.hid hlen
  clear R hW hpq hao hzo hn0 hr hv hlen
  go_enter Tryz.func12, Tryz.ntmps12
  go_wp2_with fail
  refine (hvl _ (hN.below (by (repeat (first | exact bl_refl | assumption | (apply bl_then; assumption) | refine bl_alloc ?_ _ | refine bl_drew ?_ | refine bl_drewN ?_ _)))) (hD.below (by (repeat (first | exact bl_refl | assumption | (apply bl_then; assumption) | refine bl_alloc ?_ _ | refine bl_drew ?_ | refine bl_drewN ?_ _))))).mono ?_
  rintro e w1 ⟨rfl, hb1⟩
  replace hB := hB.below (show Below _ _ w1 by (repeat (first | exact bl_refl | assumption | (apply bl_then; assumption) | refine bl_alloc ?_ _ | refine bl_drew ?_ | refine bl_drewN ?_ _)))
  replace fhB := hB.facts
  clear hvl
  go_wp2_with fail
  refine (torn_any N D _ (hN.below (by (repeat (first | exact bl_refl | assumption | (apply bl_then; assumption) | refine bl_alloc ?_ _ | refine bl_drew ?_ | refine bl_drewN ?_ _)))) (hD.below (by (repeat (first | exact bl_refl | assumption | (apply bl_then; assumption) | refine bl_alloc ?_ _ | refine bl_drew ?_ | refine bl_drewN ?_ _)))) (by omega) (by omega)).mono ?_
  rintro e w2 ⟨v2, u2, rfl, hN2, hD2, hb2⟩
  replace hB := hB.below (show Below _ _ w2 by (repeat (first | exact bl_refl | assumption | (apply bl_then; assumption) | refine bl_alloc ?_ _ | refine bl_drew ?_ | refine bl_drewN ?_ _)))
  replace fhB := hB.facts
  go_wp2_with fail
  refine (hru _ (hN2.rd bc_len) (hD2.rd bc_len)).mono ?_
  rintro e w3 ⟨v3, rfl, hW3, hb3⟩
  replace hB := hB.below (show Below _ _ w3 by (repeat (first | exact bl_refl | assumption | (apply bl_then; assumption) | refine bl_alloc ?_ _ | refine bl_drew ?_ | refine bl_drewN ?_ _)))
  replace fhB := hB.facts
  obtain ⟨A3, c3, rfl⟩ := hW3.shape
  have hWs : SlK w3 _ _ := hW3.rd kc_len
  go_wp2_with fail
  refine (torn_any N D _ (hN.below (by (repeat (first | exact bl_refl | assumption | (apply bl_then; assumption) | refine bl_alloc ?_ _ | refine bl_drew ?_ | refine bl_drewN ?_ _)))) (hD.below (by (repeat (first | exact bl_refl | assumption | (apply bl_then; assumption) | refine bl_alloc ?_ _ | refine bl_drew ?_ | refine bl_drewN ?_ _)))) (by omega) (by omega)).mono ?_
  rintro e w4 ⟨v4, u4, rfl, hN4, hD4, hb4⟩
  replace hB := hB.below (show Below _ _ w4 by (repeat (first | exact bl_refl | assumption | (apply bl_then; assumption) | refine bl_alloc ?_ _ | refine bl_drew ?_ | refine bl_drewN ?_ _)))
  replace fhB := hB.facts
  go_wp2_with fail
  refine (hre _ (hN4.rd bc_len) (hD4.rd bc_len)).mono ?_
  rintro e w5 ⟨rfl, hb5⟩
  replace hB := hB.below (show Below _ _ w5 by (repeat (first | exact bl_refl | assumption | (apply bl_then; assumption) | refine bl_alloc ?_ _ | refine bl_drew ?_ | refine bl_drewN ?_ _)))
  replace fhB := hB.facts
  go_wp2_with fail
  refine (torn_any N D _ (hN.below (by (repeat (first | exact bl_refl | assumption | (apply bl_then; assumption) | refine bl_alloc ?_ _ | refine bl_drew ?_ | refine bl_drewN ?_ _)))) (hD.below (by (repeat (first | exact bl_refl | assumption | (apply bl_then; assumption) | refine bl_alloc ?_ _ | refine bl_drew ?_ | refine bl_drewN ?_ _)))) (by omega) (by omega)).mono ?_
  rintro e w6 ⟨v6, u6, rfl, hN6, hD6, hb6⟩
  replace hB := hB.below (show Below _ _ w6 by (repeat (first | exact bl_refl | assumption | (apply bl_then; assumption) | refine bl_alloc ?_ _ | refine bl_drew ?_ | refine bl_drewN ?_ _)))
  replace fhB := hB.facts
  go_wp2_with fail
  refine (hod _ (hN6.rd bc_len) (hD6.rd bc_len)).mono ?_
  rintro e w7 ⟨v7, rfl, hO7, hb7⟩
  replace hB := hB.below (show Below _ _ w7 by (repeat (first | exact bl_refl | assumption | (apply bl_then; assumption) | refine bl_alloc ?_ _ | refine bl_drew ?_ | refine bl_drewN ?_ _)))
  replace fhB := hB.facts
  obtain ⟨A7, c7, rfl⟩ := hO7.shape
  have hOs : SlK w7 _ _ := hO7.rd kc_len
  simp only [List.length_cons, List.length_nil, Nat.zero_add, Nat.reduceAdd] at hOs ⊢
  have hWs7 := hWs.below (show Below _ _ w7 by (repeat (first | exact bl_refl | assumption | (apply bl_then; assumption) | refine bl_alloc ?_ _ | refine bl_drew ?_ | refine bl_drewN ?_ _)))
  have hbw7 : Below w.heap.size w w7 := by (repeat (first | exact bl_refl | assumption | (apply bl_then; assumption) | refine bl_alloc ?_ _ | refine bl_drew ?_ | refine bl_drewN ?_ _))
  clear hN2 hD2 hN4 hD4 hN6 hD6 hb1 hb2 hb3 hb4 hb5 hb6 hb7 hru hre hod hW3 hO7 hWs
  go_wp2_with fail
  refine (hcw _ (hWs7.below (by (repeat (first | exact bl_refl | assumption | (apply bl_then; assumption) | refine bl_alloc ?_ _ | refine bl_drew ?_ | refine bl_drewN ?_ _))))).mono ?_
  rintro e w8 ⟨rfl, hb8⟩
  replace hB := hB.below (show Below _ _ w8 by (repeat (first | exact bl_refl | assumption | (apply bl_then; assumption) | refine bl_alloc ?_ _ | refine bl_drew ?_ | refine bl_drewN ?_ _)))
  replace fhB := hB.facts
  have hW8 := hWs7.below (show Below _ _ w8 by (repeat (first | exact bl_refl | assumption | (apply bl_then; assumption) | refine bl_alloc ?_ _ | refine bl_drew ?_ | refine bl_drewN ?_ _)))
  have hO8 := hOs.below (show Below _ _ w8 by (repeat (first | exact bl_refl | assumption | (apply bl_then; assumption) | refine bl_alloc ?_ _ | refine bl_drew ?_ | refine bl_drewN ?_ _)))
  have hbw8 : Below w.heap.size w w8 := by (repeat (first | exact bl_refl | assumption | (apply bl_then; assumption) | refine bl_alloc ?_ _ | refine bl_drew ?_ | refine bl_drewN ?_ _))
  clear hWs7 hOs hb8 hbw7 hcw
  obtain ⟨A3', c3', e3, hlc3, hcm3, hrW⟩ := id hW8
  obtain ⟨rfl, rfl⟩ : A3 = A3' ∧ c3 = c3' := by simpa using e3
  clear e3
  obtain ⟨A7', c7', e7, hlc7, hcm7, hrO⟩ := id hO8
  obtain ⟨rfl, rfl⟩ : A7 = A7' ∧ c7 = c7' := by simpa using e7
  clear e7
  have h0W : 0 < W.length := by have := HLEN.out; omega
  have hDW : D.length < W.length := by have := HLEN.out; omega
  obtain ⟨bW, oW, rfl, -⟩ := hrW.knot h0W
  obtain ⟨hbW, a0, a1⟩ := hrW.knotAt h0W
  obtain ⟨_, z0, z1⟩ := hrW.knotAt hDW
  rw [List.getElem?_eq_getElem h0W] at ha
  rw [List.getElem?_eq_getElem hDW] at hz
  simp only [Option.some.inj ha] at a0 a1
  simp only [Option.some.inj hz] at z0 z1
  simp only [Nat.zero_mul, Nat.add_zero] at a0 a1
  go_upto_region 12 with fail
  go_cut [9, 10] from 25 (fun s9 s10 wx => ∃ g9 g10, s9 = .pointer (some ⟨g9, 0, none⟩) ∧ s10 = .pointer (some ⟨g10, 0, none⟩) ∧ Blk wx g9 26 #[.int .i64 a.1, .int .i64 a.2] ∧ Blk wx g10 26 #[.int .i64 z.1, .int .i64 z.2] ∧ Below w8.heap.size w8 wx)
  case first =>
    clear hms hmd hrs hcr HR
    go_region
    · go_wp2_with fail
      go_meet
      case rel => exact ⟨_, _, rfl, rfl, (Blk.new w8 _ _).alloc _, Blk.new1 w8 _ _ _, by (repeat (first | exact bl_refl | assumption | (apply bl_then; assumption) | refine bl_alloc ?_ _ | refine bl_drew ?_ | refine bl_drewN ?_ _))⟩
    · go_wp2_with fail
      go_meet
      case rel => exact ⟨_, _, rfl, rfl, Blk.new1 w8 _ _ _, (Blk.new w8 _ _).alloc _, by (repeat (first | exact bl_refl | assumption | (apply bl_then; assumption) | refine bl_alloc ?_ _ | refine bl_drew ?_ | refine bl_drewN ?_ _))⟩
  case rest =>
    as_aux_lemma =>
      obtain ⟨g9, g10, rfl, rfl, hX9, hX10, hbc⟩ := hcut
      obtain ⟨w9, rfl⟩ : ∃ x, x = wc := ⟨_, rfl⟩
      have hB9 := hB.below hbc
      replace fhB := hB9.facts
      have hW9 := hW8.below hbc
      have hO9 := hO8.below hbc
      have hrO9 := hrO.below hbc
      have hbw9 := bl_then hbc hbw8
      have f9 := hX9.facts
      have f10 := hX10.facts
      obtain ⟨bO, oO, rfl, -⟩ := hrO9.knot (k := 0) (by simp)
      obtain ⟨hbO, p0, p1⟩ := hrO9.knotAt (k := 0) (by simp)
      obtain ⟨_, q0, q1⟩ := hrO9.knotAt (k := 1) (by simp)
      simp only [List.getElem_cons_zero, List.getElem_cons_succ, Nat.zero_mul, Nat.one_mul, Nat.add_zero] at p0 p1 q0 q1
      clear hB hW8 hO8 hbc hbw8 hrW hrO a0 a1 z0 z1 hbW
      go_upto_region 13 with fail
      go_cut [132] from 25 (fun s wx => s = .bool false ∧ Below w9.heap.size w9 wx)
      case first =>
        clear hms hmd hrs hcr HR HLEN
        have haz' : beqK a.1 a.2 z.1 z.2 = false := by
          cases h : beqK a.1 a.2 z.1 z.2 with
          | false => rfl
          | true => exact absurd (beqK_true.1 h) haz
        rcases hcase with ⟨rfl, rfl⟩ | ⟨rfl, rfl⟩
        · as_aux_lemma =>
            have h1 : beqK a.1 a.2 a.1 a.2 = true := beqK_true.2 rfl
            have h2 : beqK z.1 z.2 z.1 z.2 = true := beqK_true.2 rfl
            have h3 : beqK z.1 z.2 a.1 a.2 = false := by
              cases h : beqK z.1 z.2 a.1 a.2 with
              | false => rfl
              | true => exact absurd (beqK_true.1 h).symm haz
            clear haz
            refine wp_region_ords [0, 1, 2, 3, 4, 5, 6, 7, 8, 9, 10, 11, 12, 13, 14, 15, 16, 17, 18, 19, 20, 21, 22, 23, 24, 25, 26, 27, 28, 29, 30] [] [] (by kernel_rfl) (by kernel_rfl) (fun d _ _ _ _ h => by cases d <;> exact h) ?_
            simp only [List.map_cons, List.map_nil, List.getD_cons_zero, List.getD_cons_succ]
            repeat (go_big_quiet_step (fail))
            refine wpQuiet_nil ?_
            refine wpMid_nil ?_
            go_wp2_with fail
            go_meet
            case rel => exact ⟨rfl, by (repeat (first | exact bl_refl | assumption | (apply bl_then; assumption) | refine bl_alloc ?_ _ | refine bl_drew ?_ | refine bl_drewN ?_ _))⟩
        · as_aux_lemma =>
            have h1 : beqK a.1 a.2 a.1 a.2 = true := beqK_true.2 rfl
            have h2 : beqK z.1 z.2 z.1 z.2 = true := beqK_true.2 rfl
            clear haz
            refine wp_region_ords [0, 1, 2, 3, 4, 5, 6, 7, 8, 9, 10, 11, 12, 13, 14, 15, 16, 17, 18, 19, 20, 21, 22, 23, 24, 25, 26, 27, 28, 29, 30] [] [] (by kernel_rfl) (by kernel_rfl) (fun d _ _ _ _ h => by cases d <;> exact h) ?_
            simp only [List.map_cons, List.map_nil, List.getD_cons_zero, List.getD_cons_succ]
            repeat (go_big_quiet_step (fail))
            refine wpQuiet_nil ?_
            refine wpMid_nil ?_
            go_wp2_with fail
            go_meet
            case rel => exact ⟨rfl, by (repeat (first | exact bl_refl | assumption | (apply bl_then; assumption) | refine bl_alloc ?_ _ | refine bl_drew ?_ | refine bl_drewN ?_ _))⟩
      case rest =>
        as_aux_lemma =>
          obtain ⟨rfl, hbc⟩ := hcut
          obtain ⟨w10, rfl⟩ : ∃ x, x = wc := ⟨_, rfl⟩
          replace hB9 := hB9.below hbc
          replace fhB := hB9.facts
          replace hW9 := hW9.below hbc
          replace hbw9 := bl_then hbc hbw9
          clear hX9 hX10 f9 f10 hO9 hrO9 p0 p1 q0 q1 hbO hcase haz hbc
          go_wp2_with fail
          refine (knots_any W _ (hW9.below (by (repeat (first | exact bl_refl | assumption | (apply bl_then; assumption) | refine bl_alloc ?_ _ | refine bl_drew ?_ | refine bl_drewN ?_ _)))) (by omega)).mono ?_
          rintro e k1 ⟨vk1, rfl, hK1, hbk1⟩
          replace hB9 := hB9.below (show Below _ _ k1 by (repeat (first | exact bl_refl | assumption | (apply bl_then; assumption) | refine bl_alloc ?_ _ | refine bl_drew ?_ | refine bl_drewN ?_ _)))
          replace fhB9 := hB9.facts
          go_wp2_with fail
          refine (hmd _ (hK1.rd kc_len)).mono ?_
          rintro e k2 ⟨vk2, rfl, hM2, hbk2⟩
          replace hB9 := hB9.below (show Below _ _ k2 by (repeat (first | exact bl_refl | assumption | (apply bl_then; assumption) | refine bl_alloc ?_ _ | refine bl_drew ?_ | refine bl_drewN ?_ _)))
          replace fhB9 := hB9.facts
          obtain ⟨AM, cM, rfl⟩ := hM2.shape
          have hM2' : SlB k2 _ _ := hM2.rd bc_len
          clear hmd hM2
          go_wp2_with fail
          refine (torn_any N D _ (hN.below (by (repeat (first | exact bl_refl | assumption | (apply bl_then; assumption) | refine bl_alloc ?_ _ | refine bl_drew ?_ | refine bl_drewN ?_ _)))) (hD.below (by (repeat (first | exact bl_refl | assumption | (apply bl_then; assumption) | refine bl_alloc ?_ _ | refine bl_drew ?_ | refine bl_drewN ?_ _)))) (by omega) (by omega)).mono ?_
          rintro e k3 ⟨v3, u3, rfl, hN3, hD3, hbk3⟩
          replace hB9 := hB9.below (show Below _ _ k3 by (repeat (first | exact bl_refl | assumption | (apply bl_then; assumption) | refine bl_alloc ?_ _ | refine bl_drew ?_ | refine bl_drewN ?_ _)))
          replace fhB9 := hB9.facts
          go_wp2_with fail
          refine (knots_any W _ (hW9.below (by (repeat (first | exact bl_refl | assumption | (apply bl_then; assumption) | refine bl_alloc ?_ _ | refine bl_drew ?_ | refine bl_drewN ?_ _)))) (by omega)).mono ?_
          rintro e k4 ⟨vk4, rfl, hK4, hbk4⟩
          replace hB9 := hB9.below (show Below _ _ k4 by (repeat (first | exact bl_refl | assumption | (apply bl_then; assumption) | refine bl_alloc ?_ _ | refine bl_drew ?_ | refine bl_drewN ?_ _)))
          replace fhB9 := hB9.facts
          go_wp2_with fail
          refine (hrs _ ((hN3.rd bc_len).below (by (repeat (first | exact bl_refl | assumption | (apply bl_then; assumption) | refine bl_alloc ?_ _ | refine bl_drew ?_ | refine bl_drewN ?_ _)))) ((hD3.rd bc_len).below (by (repeat (first | exact bl_refl | assumption | (apply bl_then; assumption) | refine bl_alloc ?_ _ | refine bl_drew ?_ | refine bl_drewN ?_ _)))) (hK4.rd kc_len)).mono ?_
          rintro e k5 ⟨vk5, rfl, hR5, hbk5⟩
          replace hB9 := hB9.below (show Below _ _ k5 by (repeat (first | exact bl_refl | assumption | (apply bl_then; assumption) | refine bl_alloc ?_ _ | refine bl_drew ?_ | refine bl_drewN ?_ _)))
          replace fhB9 := hB9.facts
          obtain ⟨AR, cR, rfl⟩ := hR5.shape
          have hR5' : SlB k5 _ _ := hR5.rd bc_len
          clear hrs hR5 hN3 hD3 hK1 hK4
          go_wp2_with fail
          refine (sameBars_any D D _ (hM2'.below (by (repeat (first | exact bl_refl | assumption | (apply bl_then; assumption) | refine bl_alloc ?_ _ | refine bl_drew ?_ | refine bl_drewN ?_ _)))) (hD.below (by (repeat (first | exact bl_refl | assumption | (apply bl_then; assumption) | refine bl_alloc ?_ _ | refine bl_drew ?_ | refine bl_drewN ?_ _))))).mono ?_
          rintro e k6 ⟨rfl, hbk6⟩
          replace hB9 := hB9.below (show Below _ _ k6 by (repeat (first | exact bl_refl | assumption | (apply bl_then; assumption) | refine bl_alloc ?_ _ | refine bl_drew ?_ | refine bl_drewN ?_ _)))
          replace fhB9 := hB9.facts
          go_wp2_with fail
          refine (sameBars_any N N _ (hR5'.below (by (repeat (first | exact bl_refl | assumption | (apply bl_then; assumption) | refine bl_alloc ?_ _ | refine bl_drew ?_ | refine bl_drewN ?_ _)))) (hN.below (by (repeat (first | exact bl_refl | assumption | (apply bl_then; assumption) | refine bl_alloc ?_ _ | refine bl_drew ?_ | refine bl_drewN ?_ _))))).mono ?_
          rintro e k7 ⟨rfl, hbk7⟩
          replace hB9 := hB9.below (show Below _ _ k7 by (repeat (first | exact bl_refl | assumption | (apply bl_then; assumption) | refine bl_alloc ?_ _ | refine bl_drew ?_ | refine bl_drewN ?_ _)))
          replace fhB9 := hB9.facts
          go_wp2_with fail
          refine (torn_any N D _ (hN.below (by (repeat (first | exact bl_refl | assumption | (apply bl_then; assumption) | refine bl_alloc ?_ _ | refine bl_drew ?_ | refine bl_drewN ?_ _)))) (hD.below (by (repeat (first | exact bl_refl | assumption | (apply bl_then; assumption) | refine bl_alloc ?_ _ | refine bl_drew ?_ | refine bl_drewN ?_ _)))) (by omega) (by omega)).mono ?_
          rintro e k8 ⟨v8, u8, rfl, hN8, hD8, hbk8⟩
          replace hB9 := hB9.below (show Below _ _ k8 by (repeat (first | exact bl_refl | assumption | (apply bl_then; assumption) | refine bl_alloc ?_ _ | refine bl_drew ?_ | refine bl_drewN ?_ _)))
          replace fhB9 := hB9.facts
          go_wp2_with fail
          refine (knots_any W _ (hW9.below (by (repeat (first | exact bl_refl | assumption | (apply bl_then; assumption) | refine bl_alloc ?_ _ | refine bl_drew ?_ | refine bl_drewN ?_ _)))) (by omega)).mono ?_
          rintro e k9 ⟨vk9, rfl, hK9, hbk9⟩
          replace hB9 := hB9.below (show Below _ _ k9 by (repeat (first | exact bl_refl | assumption | (apply bl_then; assumption) | refine bl_alloc ?_ _ | refine bl_drew ?_ | refine bl_drewN ?_ _)))
          replace fhB9 := hB9.facts
          go_wp2_with fail
          refine (hcr _ ((hN8.rd bc_len).below (by (repeat (first | exact bl_refl | assumption | (apply bl_then; assumption) | refine bl_alloc ?_ _ | refine bl_drew ?_ | refine bl_drewN ?_ _)))) ((hD8.rd bc_len).below (by (repeat (first | exact bl_refl | assumption | (apply bl_then; assumption) | refine bl_alloc ?_ _ | refine bl_drew ?_ | refine bl_drewN ?_ _)))) (hK9.rd kc_len)).mono ?_
          rintro e k10 ⟨rfl, hbk10⟩
          replace hB9 := hB9.below (show Below _ _ k10 by (repeat (first | exact bl_refl | assumption | (apply bl_then; assumption) | refine bl_alloc ?_ _ | refine bl_drew ?_ | refine bl_drewN ?_ _)))
          replace fhB9 := hB9.facts
          have hWA := hW9.below (show Below _ _ k10 by (repeat (first | exact bl_refl | assumption | (apply bl_then; assumption) | refine bl_alloc ?_ _ | refine bl_drew ?_ | refine bl_drewN ?_ _)))
          have hbwA : Below w.heap.size w k10 := by (repeat (first | exact bl_refl | assumption | (apply bl_then; assumption) | refine bl_alloc ?_ _ | refine bl_drew ?_ | refine bl_drewN ?_ _))
          clear hcr hN8 hD8 hK9 hM2' hR5' hW9 hbw9 hbk1 hbk2 hbk3 hbk4 hbk5 hbk6 hbk7 hbk8 hbk9 hbk10
          as_aux_lemma =>
            go_wp2_with fail
            have hM0 := MapAt.new k10 kk (fun n : Nat => Value.int .i64 (n : Int))
            go_loopw [16] (fun i wr => ∃ t : Nat, 1 ≤ t ∧ t ≤ D.length ∧ i = .int .i64 t ∧ (∃ m c, MapAt kk (fun n : Nat => Value.int .i64 (n : Int)) wr k10.heap.size m c ∧ Hid (MOk m c ∧ ∀ k, mget k m = if V k t = 0 then none else some (V k t))) ∧ Below k10.heap.size k10 wr ∧ k10.heap.size < wr.heap.size) (fun i _ => D.length - (intOf i).toNat)
            case atStart => exact ⟨1, Nat.le_refl _, hpos, rfl, ⟨[], 0, hM0, MOk.nil_, fun k => by rw [if_pos (HR.out.zero k)]; rfl⟩, bl_alloc bl_refl _, by simp⟩
            case round =>
              clear hM0
              obtain ⟨t, ht1, htD, rfl, ⟨m, c, hMp, HMp⟩, hbr, hszr⟩ := hrel
              obtain ⟨wo, rfl⟩ : ∃ wo, wo = wr := ⟨_, rfl⟩
              have hBr := hB9.below hbr
              replace fhB := hBr.facts
              have hWr := hWA.below hbr
              have hbwr := bl_then hbr hbwA
              by_cases htl : t < D.length
              · have htI : ((t : Int) < (D.length : Int)) = True := eq_true (by omega)
                have ht1W : t + 1 < W.length := by have := HLEN.out; omega
                have htW : t < W.length := by omega
                have HST := Lib.hid (HR.out.step t (by omega) ht1W)
                have hne := HST.out.1
                obtain ⟨_, _, eW, _, _, hrW⟩ := id hWr
                obtain ⟨rfl, rfl⟩ : some (⟨bW, oW, none⟩ : Addr) = _ ∧ c3 = _ := by simpa using eW
                clear eW
                obtain ⟨hbW, k0, k1⟩ := hrW.knotAt htW
                obtain ⟨⟨x, y⟩, hx⟩ : ∃ z, W[t] = z := ⟨_, rfl⟩
                have HX := Lib.hid hx
                rw [hx] at hne k0 k1
                simp only at k0 k1
                clear hx
                go_upto_region 23 with fail
                go_cut [17, 18] from 176 to 302 (fun s17 s18 wx => s17 = .int .i64 (cnt (legsAt D (x, y)) : Nat) ∧ s18 = .int .i64 0 ∧ Below wo.heap.size wo wx)
                case first =>
                  clear HMp
                  refine wp_region_ords [0, 2, 3, 4, 5] [(1, false), (6, false), (7, false), (8, true), (9, true), (10, false)] [11] (by kernel_rfl) (by kernel_rfl) (fun d _ _ _ _ h => by cases d <;> exact h) ?_
                  simp only [List.map_cons, List.map_nil, List.getD_cons_zero, List.getD_cons_succ]
                  repeat (go_big_quiet_step (fail))
                  refine wpQuiet_nil ?_
                  refine wpMid_run rfl (fun K hK => ?_)
                  go_simp
                  refine (torn_any N D _ (hN.below (by (repeat (first | exact bl_refl | assumption | (apply bl_then; assumption) | refine bl_alloc ?_ _ | refine bl_drew ?_ | refine bl_drewN ?_ _)))) (hD.below (by (repeat (first | exact bl_refl | assumption | (apply bl_then; assumption) | refine bl_alloc ?_ _ | refine bl_drew ?_ | refine bl_drewN ?_ _)))) (by omega) (by omega)).mono ?_
                  rintro e wa ⟨va, ua, rfl, hNa, hDa, hba⟩
                  refine hK _ _ (by (repeat (first | exact bl_refl | assumption | (apply bl_then; assumption) | refine bl_alloc ?_ _ | refine bl_drew ?_ | refine bl_drewN ?_ _))) ?_
                  clear hK K
                  refine wpMid_run rfl (fun K hK => ?_)
                  go_simp
                  refine (hms (x, y) _ hne ((hNa.rd bc_len).below (by (repeat (first | exact bl_refl | assumption | (apply bl_then; assumption) | refine bl_alloc ?_ _ | refine bl_drew ?_ | refine bl_drewN ?_ _)))) ((hDa.rd bc_len).below (by (repeat (first | exact bl_refl | assumption | (apply bl_then; assumption) | refine bl_alloc ?_ _ | refine bl_drew ?_ | refine bl_drewN ?_ _))))).mono ?_
                  rintro e wb ⟨rfl, hbb⟩
                  refine hK _ _ (by (repeat (first | exact bl_refl | assumption | (apply bl_then; assumption) | refine bl_alloc ?_ _ | refine bl_drew ?_ | refine bl_drewN ?_ _))) ?_
                  clear hK K
                  refine wpMid_run rfl (fun K hK => ?_)
                  go_simp
                  refine hK _ _ (by (repeat (first | exact bl_refl | assumption | (apply bl_then; assumption) | refine bl_alloc ?_ _ | refine bl_drew ?_ | refine bl_drewN ?_ _))) ?_
                  clear hK K
                  refine wpMid_take rfl ?_
                  intro K hK
                  go_big_quiet_op
                  go_big_quiet_on
                  refine wpMid_take rfl ?_
                  intro K hK
                  go_big_quiet_op
                  go_big_quiet_on
                  refine wpMid_run rfl (fun K hK => ?_)
                  go_simp
                  refine hK _ _ (by (repeat (first | exact bl_refl | assumption | (apply bl_then; assumption) | refine bl_alloc ?_ _ | refine bl_drew ?_ | refine bl_drewN ?_ _))) ?_
                  clear hK K
                  refine wpMid_nil ?_
                  go_wp2_with fail
                  go_meet
                  case rel => exact ⟨rfl, rfl, by (repeat (first | exact bl_refl | assumption | (apply bl_then; assumption) | refine bl_alloc ?_ _ | refine bl_drew ?_ | refine bl_drewN ?_ _))⟩
                case rest =>
                  as_aux_lemma =>
                    obtain ⟨rfl, rfl, hbc⟩ := hcut
                    obtain ⟨wi, rfl⟩ : ∃ x, x = wc := ⟨_, rfl⟩
                    have hBi := hBr.below hbc
                    have hMi := hMp.below hbc
                    have hWi := hWr.below hbc
                    have hrWi := hrW.below hbc
                    have hbi := bl_then hbc hbr
                    have hszi := Nat.lt_of_lt_of_le hszr hbc.size
                    obtain ⟨n, hn⟩ : ∃ n, cnt (legsAt D (x, y)) = n := ⟨_, rfl⟩
                    have h24 : n = 2 ∨ n = 4 := by
                      have := HST.out.2.1
                      rw [HX.out, hn] at this
                      exact this
                    have HN := Lib.hid hn
                    rw [hn]
                    clear hn hBr hWr hMp hrW hbc hbr hszr fhB k0 k1
                    go_upto_region 24 with fail
                    go_cut [202] from 176 to 302 (fun s wx => s = .bool false ∧ Below wi.heap.size wi wx)
                    case first =>
                      rcases h24 with rfl | rfl
                      · go_wp2_with fail
                        go_meet
                        case rel => exact ⟨rfl, by (repeat (first | exact bl_refl | assumption | (apply bl_then; assumption) | refine bl_alloc ?_ _ | refine bl_drew ?_ | refine bl_drewN ?_ _))⟩
                      · go_wp2_with fail
                        go_meet
                        case rel => exact ⟨rfl, by (repeat (first | exact bl_refl | assumption | (apply bl_then; assumption) | refine bl_alloc ?_ _ | refine bl_drew ?_ | refine bl_drewN ?_ _))⟩
                    case rest =>
                      obtain ⟨rfl, hbc⟩ := hcut
                      obtain ⟨wj, rfl⟩ : ∃ x, x = wc := ⟨_, rfl⟩
                      have hBj := hBi.below hbc
                      have fhB := hBj.facts
                      have hMj := hMi.below hbc
                      have hWj := hWi.below hbc
                      have hrWj := hrWi.below hbc
                      have hbj := bl_then hbc hbi
                      have hszj := Nat.lt_of_lt_of_le hszi hbc.size
                      clear hBi hWi hMi hrWi hbc hbi hszi
                      obtain ⟨hbW, k0, k1⟩ := hrWj.knotAt htW
                      rw [HX.out] at k0 k1
                      simp only at k0 k1
                      go_upto_region 26 with fail
                      as_aux_lemma =>
                        obtain ⟨x0, y0, x2, y2, v0, hx0, hx2, hv0, hv1, hv2, hup, hlo, hot⟩ := res_step HR.out t (by omega) ht1W HX.out HN.out
                        have hmv : (mget ((x, y) : Knot) m).getD 0 = v0 := by
                          rw [HMp.out.2 (x, y), hv0]
                          by_cases h : v0 = 0 <;> simp [h]
                        obtain ⟨w1, w2, sm, c2, he1, hl0, hl1, he2, hMp2, hok2, hB1, hB2⟩ := MapAt.incr hMj.drew HMp.out.1 knot_key und_kint zero_int ((x, y) : Knot) hmv
                        have HM2 : Hid (MOk (mput ((x, y) : Knot) (v0 + 1) c m) c2 ∧ ∀ k, mget k (mput ((x, y) : Knot) (v0 + 1) c m) = if V k (t + 1) = 0 then none else some (V k (t + 1))) := ⟨hok2, fun k => by
                          rw [mget_put]
                          by_cases hk : k = (x, y)
                          · rw [if_pos hk, hk, hv1]; rfl
                          · rw [if_neg hk, hot k hk, HMp.out.2 k]⟩
                        have hUP := Lib.hid (And.intro hup hlo)
                        have hV2 := Lib.hid hv2
                        have he1' : (Instr.mapEntry 97 (.map (some k10.heap.size)) (.agg #[.int .i64 x, .int .i64 y])).run Tryz.prog wj.drew = .ok (.tuple #[.int .i64 (v0 : Int), .int .i64 (sm : Int)]) w1 := he1
                        have he2' : (Instr.entryStore 97 (.map (some k10.heap.size)) (.int .i64 (sm : Int)) (.int .i64 ((v0 : Int) + 1))).run Tryz.prog w1 = .ok () w2 := he2
                        have hl0' : (Instr.lookup 97 (.map (some k10.heap.size)) (.agg #[.int .i64 x, .int .i64 y]) false).run Tryz.prog wj.drew = .ok (.int .i64 (v0 : Int)) wj.drew := hl0
                        have hl1' : (Instr.lookup 97 (.map (some k10.heap.size)) (.agg #[.int .i64 x, .int .i64 y]) false).run Tryz.prog w1 = .ok (.int .i64 (v0 : Int)) w1 := hl1
                        have hv4 : v0 ≤ 4 := by rcases h24 with rfl | rfl <;> omega
                        have hwr : IntKind.i64.wrap ((v0 : Int) + 1) = ((v0 + 1 : Nat) : Int) := by
                          rw [IntWalk.i64_in _ (by omega)]; rfl
                        have hlook : ∀ g : BelM k10.heap.size wj (fun u => (Instr.lookup 97 (.map (some k10.heap.size)) (.agg #[.int .i64 x, .int .i64 y]) false).run Tryz.prog u = .ok (.int .i64 (v0 : Int)) u), (Instr.lookup 97 (.map (some k10.heap.size)) (.agg #[.int .i64 x, .int .i64 y]) false).run Tryz.prog g.val = .ok (.int .i64 (v0 : Int)) g.val := fun g => g.has
                        haveI hne' : Nonempty (BelM k10.heap.size wj (fun u => (Instr.lookup 97 (.map (some k10.heap.size)) (.agg #[.int .i64 x, .int .i64 y]) false).run Tryz.prog u = .ok (.int .i64 (v0 : Int)) u)) := BelM.none_empty (Below.refl _ wj).drew hl0'
                        have hbk2 : Below k10.heap.size k10 w2 := hbj.drew.trans (hB2 _ (Nat.le_refl _))
                        have hb1j := hB1 k10.heap.size (Nat.le_refl _)
                        clear he1 he2 hl0 hl1 hok2 hot hmv hv0 hv1 hv2 hup hlo hMj HMp hB1 hB2
                        obtain ⟨_, _, eW, _, _, hrW0⟩ := id hWA
                        obtain ⟨rfl, rfl⟩ : some (⟨bW, oW, none⟩ : Addr) = _ ∧ c3 = _ := by simpa using eW
                        clear eW
                        have hbWk := (hrW0.knotAt htW).1
                        refine wp_region_ordm (k10.heap.size) (fun u => (Instr.lookup 97 (.map (some k10.heap.size)) (.agg #[.int .i64 x, .int .i64 y]) false).run Tryz.prog u = .ok (.int .i64 (v0 : Int)) u) [0, 1, 2, 3, 4, 5, 6] [(7, false), (8, false)] [9] (by kernel_rfl) (by kernel_rfl) (fun d _ _ _ _ h => by cases d <;> exact h) (hl0') ?_
                        simp only [List.map_cons, List.map_nil, List.getD_cons_zero, List.getD_cons_succ]
                        repeat (go_big_quiet_step (fail))
                        refine wpQuiet_nil ?_
                        refine wpMid_runm rfl (fun K hK => ?_)
                        go_simp
                        refine hK _ _ ((Below.refl _ wj).drew.trans hb1j) (hl1') ?_
                        clear hK K
                        refine wpMid_runm rfl (fun K hK => ?_)
                        go_simp
                        refine hK _ _ ((Below.refl _ wj).drew.trans hb1j) (hl1') ?_
                        clear hK K
                        refine wpMid_nil ?_
                        go_upto_region 27 with fail
                        as_aux_lemma =>
                          clear hlook hne' he1' he2' hl0' hl1' hb1j hwr hBj fhB hWj hrWj hbj hszj k0 k1 hbW
                          have hB2 := hB9.below hbk2
                          have fhB := hB2.facts
                          have hW2 := hWA.below hbk2
                          have hrW2 := hrW0.below hbk2
                          have hsz2 := hMp2.lt
                          obtain ⟨hbW2, m0, m1⟩ := hrW2.knotAt htW
                          rw [HX.out] at m0 m1
                          simp only at m0 m1
                          obtain ⟨_, p0, p1⟩ := hrW2.knotAt (show t - 1 < W.length by omega)
                          rw [hx0] at p0 p1
                          simp only at p0 p1
                          obtain ⟨_, s0, s1⟩ := hrW2.knotAt ht1W
                          rw [hx2] at s0 s1
                          simp only at s0 s1
                          clear hx0 hx2
                          obtain ⟨p, hp⟩ : ∃ p, t - 1 = p := ⟨_, rfl⟩
                          obtain ⟨s, hs⟩ : ∃ s, t + 1 = s := ⟨_, rfl⟩
                          rw [hp] at p0 p1
                          rw [hs] at s0 s1
                          have hi1 : IntKind.i64.wrap ((t : Int) - 1) = (p : Int) := by rw [IntWalk.i64_in _ (by omega)]; omega
                          have hi2 : IntKind.i64.wrap ((t : Int) + 1) = (s : Int) := by rw [IntWalk.i64_in _ (by omega)]; omega
                          have hpl : p < W.length := by omega
                          have hsl : s < W.length := by omega
                          have HS := Lib.hid hs
                          clear hp hs
                          go_cut [19] from 176 to 302 (fun s19 wx => (∃ b : Bool, s19 = .bool b ∧ (n = 4 → v0 = 0 → b = true)) ∧ Below w2.heap.size w2 wx)
                          case first =>
                            clear HM2
                            obtain ⟨b1, hb1⟩ : ∃ b, decide (y < y0) = b := ⟨_, rfl⟩
                            obtain ⟨b2, hb2⟩ : ∃ b, decide (y < y2) = b := ⟨_, rfl⟩
                            have HF : Hid (n = 4 → v0 = 0 → b1 = true ∧ b2 = true) := fun h1 h2 => by
                              have := hUP.out.1 h1 h2
                              exact ⟨by rw [← hb1]; exact decide_eq_true this.1, by rw [← hb2]; exact decide_eq_true this.2⟩
                            cases b1
                            · as_aux_lemma =>
                                clear hb2
                                refine wp_region_ords [0, 1, 2, 3, 4, 5, 6, 7, 8, 9, 10, 11, 12, 13, 14, 15, 16, 17, 18, 19, 20, 21, 22, 23, 24, 25, 26] [] [] (by kernel_rfl) (by kernel_rfl) (fun d _ _ _ _ h => by cases d <;> exact h) ?_
                                simp only [List.map_cons, List.map_nil, List.getD_cons_zero, List.getD_cons_succ]
                                repeat (go_big_quiet_step (fail))
                                refine wpQuiet_nil ?_
                                refine wpMid_nil ?_
                                go_wp2_with fail
                                go_meet
                                case rel => exact ⟨⟨_, rfl, fun h1 h2 => (by have := (HF.out h1 h2).1; cases this)⟩, by (repeat (first | exact bl_refl | assumption | (apply bl_then; assumption) | refine bl_alloc ?_ _ | refine bl_drew ?_ | refine bl_drewN ?_ _))⟩
                            · cases b2
                              · as_aux_lemma =>
                                  refine wp_region_ords [0, 1, 2, 3, 4, 5, 6, 7, 8, 9, 10, 11, 12, 13, 14, 15, 16, 17, 18, 19, 20, 21, 22, 23, 24, 25, 26] [] [] (by kernel_rfl) (by kernel_rfl) (fun d _ _ _ _ h => by cases d <;> exact h) ?_
                                  simp only [List.map_cons, List.map_nil, List.getD_cons_zero, List.getD_cons_succ]
                                  repeat (go_big_quiet_step (fail))
                                  refine wpQuiet_nil ?_
                                  refine wpMid_nil ?_
                                  go_wp2_with fail
                                  go_meet
                                  case rel => exact ⟨⟨_, rfl, fun h1 h2 => (by have := (HF.out h1 h2).2; cases this)⟩, by (repeat (first | exact bl_refl | assumption | (apply bl_then; assumption) | refine bl_alloc ?_ _ | refine bl_drew ?_ | refine bl_drewN ?_ _))⟩
                              · as_aux_lemma =>
                                  refine wp_region_ords [0, 1, 2, 3, 4, 5, 6, 7, 8, 9, 10, 11, 12, 13, 14, 15, 16, 17, 18, 19, 20, 21, 22, 23, 24, 25, 26] [] [] (by kernel_rfl) (by kernel_rfl) (fun d _ _ _ _ h => by cases d <;> exact h) ?_
                                  simp only [List.map_cons, List.map_nil, List.getD_cons_zero, List.getD_cons_succ]
                                  repeat (go_big_quiet_step (fail))
                                  refine wpQuiet_nil ?_
                                  refine wpMid_nil ?_
                                  go_wp2_with fail
                                  go_meet
                                  case rel => exact ⟨⟨_, rfl, fun _ _ => rfl⟩, by (repeat (first | exact bl_refl | assumption | (apply bl_then; assumption) | refine bl_alloc ?_ _ | refine bl_drew ?_ | refine bl_drewN ?_ _))⟩
                          case rest =>
                            as_aux_lemma =>
                              obtain ⟨⟨bh, rfl, hbh⟩, hbc⟩ := hcut
                              have HBH := Lib.hid hbh
                              clear hbh
                              obtain ⟨w3, rfl⟩ : ∃ x, x = wc := ⟨_, rfl⟩
                              have hB3 := hB2.below hbc
                              replace fhB := hB3.facts
                              have hW3 := hW2.below hbc
                              have hrW3 := hrW2.below hbc
                              have hMp3 := hMp2.below hbc
                              have hbk3 := hbk2.trans (hbc.mono (Nat.le_of_lt hsz2))
                              obtain ⟨hbW3, n0, n1⟩ := hrW3.knotAt htW
                              rw [HX.out] at n0 n1
                              simp only at n0 n1
                              replace p0 := (hbc.cell hbW2).trans p0
                              replace p1 := (hbc.cell hbW2).trans p1
                              replace s0 := (hbc.cell hbW2).trans s0
                              replace s1 := (hbc.cell hbW2).trans s1
                              clear hB2 hW2 hrW2 hMp2 hbk2 hsz2 hbW2 m0 m1 hbc
                              go_upto_region 28 with fail
                              go_cut [20] from 176 to 302 (fun s20 wx => (∃ b : Bool, s20 = .bool b ∧ (n = 4 → 0 < v0 → b = true)) ∧ Below w3.heap.size w3 wx)
                              case first =>
                                clear HM2
                                obtain ⟨b1, hb1⟩ : ∃ b, decide (y0 < y) = b := ⟨_, rfl⟩
                                obtain ⟨b2, hb2⟩ : ∃ b, decide (y2 < y) = b := ⟨_, rfl⟩
                                have HF : Hid (n = 4 → 0 < v0 → b1 = true ∧ b2 = true) := fun h1 h2 => by
                                  have := hUP.out.2 h1 h2
                                  exact ⟨by rw [← hb1]; exact decide_eq_true this.1, by rw [← hb2]; exact decide_eq_true this.2⟩
                                cases b1
                                · as_aux_lemma =>
                                    clear hb2
                                    refine wp_region_ords [0, 1, 2, 3, 4, 5, 6, 7, 8, 9, 10, 11, 12, 13, 14, 15, 16, 17, 18, 19, 20, 21, 22, 23, 24, 25, 26] [] [] (by kernel_rfl) (by kernel_rfl) (fun d _ _ _ _ h => by cases d <;> exact h) ?_
                                    simp only [List.map_cons, List.map_nil, List.getD_cons_zero, List.getD_cons_succ]
                                    repeat (go_big_quiet_step (fail))
                                    refine wpQuiet_nil ?_
                                    refine wpMid_nil ?_
                                    go_wp2_with fail
                                    go_meet
                                    case rel => exact ⟨⟨_, rfl, fun h1 h2 => (by have := (HF.out h1 h2).1; cases this)⟩, by (repeat (first | exact bl_refl | assumption | (apply bl_then; assumption) | refine bl_alloc ?_ _ | refine bl_drew ?_ | refine bl_drewN ?_ _))⟩
                                · cases b2
                                  · as_aux_lemma =>
                                      refine wp_region_ords [0, 1, 2, 3, 4, 5, 6, 7, 8, 9, 10, 11, 12, 13, 14, 15, 16, 17, 18, 19, 20, 21, 22, 23, 24, 25, 26] [] [] (by kernel_rfl) (by kernel_rfl) (fun d _ _ _ _ h => by cases d <;> exact h) ?_
                                      simp only [List.map_cons, List.map_nil, List.getD_cons_zero, List.getD_cons_succ]
                                      repeat (go_big_quiet_step (fail))
                                      refine wpQuiet_nil ?_
                                      refine wpMid_nil ?_
                                      go_wp2_with fail
                                      go_meet
                                      case rel => exact ⟨⟨_, rfl, fun h1 h2 => (by have := (HF.out h1 h2).2; cases this)⟩, by (repeat (first | exact bl_refl | assumption | (apply bl_then; assumption) | refine bl_alloc ?_ _ | refine bl_drew ?_ | refine bl_drewN ?_ _))⟩
                                  · as_aux_lemma =>
                                      refine wp_region_ords [0, 1, 2, 3, 4, 5, 6, 7, 8, 9, 10, 11, 12, 13, 14, 15, 16, 17, 18, 19, 20, 21, 22, 23, 24, 25, 26] [] [] (by kernel_rfl) (by kernel_rfl) (fun d _ _ _ _ h => by cases d <;> exact h) ?_
                                      simp only [List.map_cons, List.map_nil, List.getD_cons_zero, List.getD_cons_succ]
                                      repeat (go_big_quiet_step (fail))
                                      refine wpQuiet_nil ?_
                                      refine wpMid_nil ?_
                                      go_wp2_with fail
                                      go_meet
                                      case rel => exact ⟨⟨_, rfl, fun _ _ => rfl⟩, by (repeat (first | exact bl_refl | assumption | (apply bl_then; assumption) | refine bl_alloc ?_ _ | refine bl_drew ?_ | refine bl_drewN ?_ _))⟩
                              case rest =>
                                as_aux_lemma =>
                                  obtain ⟨⟨bl, rfl, hbl⟩, hbc⟩ := hcut
                                  have HBL := Lib.hid hbl
                                  clear hbl
                                  obtain ⟨w4, rfl⟩ : ∃ x, x = wc := ⟨_, rfl⟩
                                  have hB4 := hB3.below hbc
                                  replace fhB := hB4.facts
                                  have hW4 := hW3.below hbc
                                  have hrW4 := hrW3.below hbc
                                  have hMp4 := hMp3.below hbc
                                  have hbk4 := hbk3.trans (hbc.mono (Nat.le_of_lt hMp3.lt))
                                  replace n0 := (hbc.cell hbW3).trans n0
                                  replace n1 := (hbc.cell hbW3).trans n1
                                  have hbW4 := Nat.lt_of_lt_of_le hbW3 hbc.size
                                  have hlk : (Instr.lookup 97 (.map (some k10.heap.size)) (.agg #[.int .i64 x, .int .i64 y]) false).run Tryz.prog w4 = .ok (.int .i64 ((v0 + 1 : Nat) : Int)) w4 := by
                                    have := hMp4.look knot_key und_kint (zero_int w4) ((x, y) : Knot)
                                    rw [mget_put, if_pos rfl] at this
                                    exact this
                                  clear hB3 hW3 hrW3 hMp3 hbk3 hbW3 p0 p1 s0 s1 hi1 hbc
                                  go_upto_region 29 with fail
                                  go_cut [302] from 176 to 302 (fun s wx => s = .bool false ∧ Below w4.heap.size w4 wx)
                                  case first =>
                                    clear HM2
                                    rcases h24 with rfl | rfl
                                    · obtain rfl : v0 = 0 := by have := hV2.out; omega
                                      replace hlk : (Instr.lookup 97 (.map (some k10.heap.size)) (.agg #[.int .i64 x, .int .i64 y]) false).run Tryz.prog w4 = .ok (.int .i64 1) w4 := hlk
                                      go_wp2_with fail
                                      go_meet
                                      case rel => exact ⟨rfl, by (repeat (first | exact bl_refl | assumption | (apply bl_then; assumption) | refine bl_alloc ?_ _ | refine bl_drew ?_ | refine bl_drewN ?_ _))⟩
                                    · have h01 : v0 = 0 ∨ v0 = 1 := by have := hV2.out; omega
                                      rcases h01 with rfl | rfl
                                      · obtain rfl : bh = true := HBH.out rfl rfl
                                        replace hlk : (Instr.lookup 97 (.map (some k10.heap.size)) (.agg #[.int .i64 x, .int .i64 y]) false).run Tryz.prog w4 = .ok (.int .i64 1) w4 := hlk
                                        go_wp2_with fail
                                        go_meet
                                        case rel => exact ⟨rfl, by (repeat (first | exact bl_refl | assumption | (apply bl_then; assumption) | refine bl_alloc ?_ _ | refine bl_drew ?_ | refine bl_drewN ?_ _))⟩
                                      · obtain rfl : bl = true := HBL.out rfl (by decide)
                                        replace hlk : (Instr.lookup 97 (.map (some k10.heap.size)) (.agg #[.int .i64 x, .int .i64 y]) false).run Tryz.prog w4 = .ok (.int .i64 2) w4 := hlk
                                        go_wp2_with fail
                                        go_meet
                                        case rel => exact ⟨rfl, by (repeat (first | exact bl_refl | assumption | (apply bl_then; assumption) | refine bl_alloc ?_ _ | refine bl_drew ?_ | refine bl_drewN ?_ _))⟩
                                  case rest =>
                                    obtain ⟨rfl, hbc⟩ := hcut
                                    have hMp5 := hMp4.below hbc
                                    have hbk5 := hbk4.trans (hbc.mono (Nat.le_of_lt hMp4.lt))
                                    clear hlk hi2 n0 n1
                                    go_wp2_with fail
                                    go_roundw
                                    case rel => exact ⟨t + 1, by omega, by omega, by go_num, ⟨_, _, hMp5, HM2⟩, hbk5, hMp5.lt⟩
                                    case measure => simp [intOf]; omega
              · obtain rfl : t = D.length := by omega
                as_aux_lemma =>
                  have hlt' : ((D.length : Int) < (D.length : Int)) = False := eq_false (by omega)
                  have hrg := run_range_map (P := Tryz.prog) hMp und_kint
                  have hst := RngAt.start (κ := Knot) (ν := Nat) (w := wo) (rk := k10.heap.size) HMp.out.1
                  clear hWr
                  go_wp2_with fail
                  have hmne : wo.heap.size ≠ k10.heap.size := by omega
                  go_loopw [] (fun wr => ∃ done, RngAt wr wo.heap.size k10.heap.size m c done ∧ Below wo.heap.size wo wr) (fun wr => m.length - seenN wr wo.heap.size)
                  case atStart => exact ⟨[], hst, by (repeat (first | exact bl_refl | assumption | (apply bl_then; assumption) | refine bl_alloc ?_ _ | refine bl_drew ?_ | refine bl_drewN ?_ _))⟩
                  case round =>
                    clear hrg hst hlt'
                    obtain ⟨done, hR, hbq⟩ := hrel
                    obtain ⟨wq, rfl⟩ : ∃ x, x = wr := ⟨_, rfl⟩
                    have hmr := hMp.below hbq
                    rcases rng_next (P := Tryz.prog) hR hmr HMp.out.1 hmne with ⟨_, hrun⟩ | ⟨⟨⟨kx, ky⟩, v, st⟩, hx, hnd, w1, hrun, hen, hch, hR1⟩
                    · have hbw' := bl_then hbq hbwr
                      go_wp2_with fail
                      refine (awake_any _).mono ?_
                      rintro e wz ⟨rfl, hbz⟩
                      go_wp2
                      go_ret
                      exact ⟨rfl, by (repeat (first | exact bl_refl | assumption | (apply bl_then; assumption) | refine bl_alloc ?_ _ | refine bl_drew ?_ | refine bl_drewN ?_ _))⟩
                    · have hg := mget_of_mem HMp.out.1.keys hx
                      rw [HMp.out.2 (kx, ky)] at hg
                      have hvp : 0 < V (kx, ky) D.length ∧ V (kx, ky) D.length = v := by
                        by_cases h0 : V (kx, ky) D.length = 0
                        · rw [if_pos h0] at hg; cases hg
                        · rw [if_neg h0] at hg
                          exact ⟨by omega, Option.some.inj hg⟩
                      clear hg
                      obtain ⟨hne, hcv⟩ := HR.out.fin (kx, ky) hvp.1
                      rw [hvp.2] at hcv
                      obtain ⟨q, hq⟩ : ∃ q : Nat, cnt (legsAt D (kx, ky)) = q := ⟨_, rfl⟩
                      have hq4 : q ≤ 4 := by rw [← hq]; exact cnt_le _
                      have hw2 : IntKind.i64.wrap (2 * (v : Int)) = (q : Int) := by rw [IntWalk.i64_in _ (by omega)]; omega
                      have HQ := Lib.hid hq
                      clear hcv hq hvp
                      have hen' : (Instr.entry (.pointer (some ⟨wo.heap.size, 0, none⟩))).run Tryz.prog w1 = .ok (.tuple #[.agg #[.int .i64 kx, .int .i64 ky], .int .i64 (v : Int)]) w1 := hen
                      have hrun' : ∀ ty, (Instr.next (.pointer (some ⟨wo.heap.size, 0, none⟩)) false ty).run Tryz.prog wq = .ok (.tuple #[.bool true, .agg #[.int .i64 kx, .int .i64 ky], .int .i64 (v : Int)]) w1 := hrun
                      have hb1 : Below wo.heap.size wo w1 := ((Chg.of_below hbq).trans (hch.mono (S' := [wo.heap.size]) (by simp))).below (by simp) (Nat.le_refl _)
                      clear hen hrun
                      have hB1 := (hBr.below hb1).alloc (.cells #[.int .i64 kx, .int .i64 ky] 26)
                      have hK1 := Blk.new w1 26 #[.int .i64 kx, .int .i64 ky]
                      clear fhB
                      go_upto_region 34 with fail
                      have hRA := hR1.below (bl_alloc bl_refl (.cells #[.int .i64 kx, .int .i64 ky] 26))
                      have hbA : Below wo.heap.size wo (w1.alloc (.cells #[.int .i64 kx, .int .i64 ky] 26)) := by (repeat (first | exact bl_refl | assumption | (apply bl_then; assumption) | refine bl_alloc ?_ _ | refine bl_drew ?_ | refine bl_drewN ?_ _))
                      have hsA : w1.heap.size < (w1.alloc (.cells #[.int .i64 kx, .int .i64 ky] 26)).heap.size := by simp
                      obtain ⟨wA, hwA⟩ : ∃ X, (w1.alloc (.cells #[.int .i64 kx, .int .i64 ky] 26)) = X := ⟨_, rfl⟩
                      rw [hwA] at hB1 hK1 hRA hbA hsA ⊢
                      have fhB1 := hB1.facts
                      have fK1 := hK1.facts
                      clear hwA
                      have hlm : done.length < m.length := by
                        have := length_le_of_sub hR1.nodup hR1.sub
                        rw [mkeys_length, List.length_append] at this
                        simp only [List.length_cons, List.length_nil] at this
                        omega
                      go_cut [23, 24] from 305 to 324 (fun s23 s24 wx => s23 = .int .i64 (q : Int) ∧ s24 = .int .i64 0 ∧ Below wA.heap.size wA wx)
                      case first => --keep
                        refine wp_region_ords [0, 2] [(1, false), (3, false), (4, false), (5, true), (6, true), (7, false)] [8] (by kernel_rfl) (by kernel_rfl) (fun d _ _ _ _ h => by cases d <;> exact h) ?_
                        simp only [List.map_cons, List.map_nil, List.getD_cons_zero, List.getD_cons_succ]
                        repeat (go_big_quiet_step (fail))
                        refine wpQuiet_nil ?_
                        refine wpMid_run rfl (fun K hK => ?_)
                        go_simp
                        refine (torn_any N D _ (hN.below (by (repeat (first | exact bl_refl | assumption | (apply bl_then; assumption) | refine bl_alloc ?_ _ | refine bl_drew ?_ | refine bl_drewN ?_ _)))) (hD.below (by (repeat (first | exact bl_refl | assumption | (apply bl_then; assumption) | refine bl_alloc ?_ _ | refine bl_drew ?_ | refine bl_drewN ?_ _)))) (by omega) (by omega)).mono ?_
                        rintro e wa ⟨va, ua, rfl, hNa, hDa, hba⟩
                        refine hK _ _ (by (repeat (first | exact bl_refl | assumption | (apply bl_then; assumption) | refine bl_alloc ?_ _ | refine bl_drew ?_ | refine bl_drewN ?_ _))) ?_
                        clear hK K
                        refine wpMid_run rfl (fun K hK => ?_)
                        go_simp
                        refine (hms (kx, ky) _ hne ((hNa.rd bc_len).below (by (repeat (first | exact bl_refl | assumption | (apply bl_then; assumption) | refine bl_alloc ?_ _ | refine bl_drew ?_ | refine bl_drewN ?_ _)))) ((hDa.rd bc_len).below (by (repeat (first | exact bl_refl | assumption | (apply bl_then; assumption) | refine bl_alloc ?_ _ | refine bl_drew ?_ | refine bl_drewN ?_ _))))).mono ?_
                        rintro e wb ⟨rfl, hbb⟩
                        refine hK _ _ (by (repeat (first | exact bl_refl | assumption | (apply bl_then; assumption) | refine bl_alloc ?_ _ | refine bl_drew ?_ | refine bl_drewN ?_ _))) ?_
                        clear hK K
                        refine wpMid_run rfl (fun K hK => ?_)
                        go_simp
                        refine hK _ _ (by (repeat (first | exact bl_refl | assumption | (apply bl_then; assumption) | refine bl_alloc ?_ _ | refine bl_drew ?_ | refine bl_drewN ?_ _))) ?_
                        clear hK K
                        refine wpMid_take rfl ?_
                        intro K hK
                        go_big_quiet_op
                        go_big_quiet_on
                        refine wpMid_take rfl ?_
                        intro K hK
                        go_big_quiet_op
                        go_big_quiet_on
                        refine wpMid_run rfl (fun K hK => ?_)
                        go_simp
                        refine hK _ _ (by (repeat (first | exact bl_refl | assumption | (apply bl_then; assumption) | refine bl_alloc ?_ _ | refine bl_drew ?_ | refine bl_drewN ?_ _))) ?_
                        clear hK K
                        refine wpMid_nil ?_
                        go_wp2_with fail
                        go_meet
                        case rel => exact ⟨by rw [HQ.out], rfl, by (repeat (first | exact bl_refl | assumption | (apply bl_then; assumption) | refine bl_alloc ?_ _ | refine bl_drew ?_ | refine bl_drewN ?_ _))⟩
                      case rest =>
                        as_aux_lemma =>
                          obtain ⟨rfl, rfl, hbc⟩ := hcut
                          have hRB := hRA.below hbc
                          go_wp2_with fail
                          go_roundw
                          case rel => exact ⟨done ++ [(kx, ky)], hRB, by (repeat (first | exact bl_refl | assumption | (apply bl_then; assumption) | refine bl_alloc ?_ _ | refine bl_drew ?_ | refine bl_drewN ?_ _))⟩
                          case measure => rw [hRB.seenN, hR.seenN]; simp; omega
end Go.Proofs.YthcnngoaijgnoaaGreat

/- The reference: the parts of a net, walked. Conditions: the net has no error. -/
import Derived.Test.YtkmjcoofkgpanaaGreatDoorB21
import Derived.Test.YtkmjcoofkgpanaaGreatDoorNrbJ
import Derived.Test.YtkmjcoofkgpanaaGreatDoorB13
import Derived.Test.YtkmjcoofkgpanaaGreatDoorNraJ
namespace Go.Proofs.YtkmjcoofkgpanaaGreatDoor
open Go.RowKit Go.ChangeMaps
set_option maxHeartbeats 4000000
set_option maxRecDepth 100000

attribute [local go_sem] Oper.semAt_some
theorem Rd.row {w : World} {A : Option Addr} {l : List SlV} (h : Rd rc 1 w A l) {k : Nat} (hk : k < l.length) : ∃ b off, A = some ⟨b, off, none⟩ ∧ b < w.heap.size ∧ w.cell? ⟨b, off + k, none⟩ = some (slV l[k]) := by
  obtain ⟨b, off, e, hlt, hc⟩ := h k l[k] (List.getElem?_eq_getElem hk)
  exact ⟨b, off, e, hlt, by simpa using hc 0 _ rfl⟩
theorem flat_take {Ls : List (List Bar)} {j : Nat} (hj : j < Ls.length) : (Ls.take (j + 1)).flatten = (Ls.take j).flatten ++ Ls[j] := by
  rw [List.take_succ_eq_append_getElem hj, List.flatten_append]; simp
theorem rprt_len (l : List Bar) : ∀ k, (rprt l k).length ≤ k
  | 0 => Nat.le_refl _
  | k + 1 => by
    have := rprt_len l k
    unfold rprt
    split
    · omega
    · split
      · omega
      · simp; omega
/-- a row of a row of rows, read -/
theorem OwRR.get {base : Nat} {w : World} {A : Option Addr} {c : Nat} {n : Nat} {Ls : List (List Bar)} (h : OwRR base w (.slice A n c) Ls) (hn : Ls.length = n) {j : Nat} (hj : j < Ls.length) :
    ∃ b off A1 c1, A = some ⟨b, off, none⟩ ∧ b < w.heap.size ∧ w.cell? ⟨b, off + j, none⟩ = some (.slice A1 Ls[j].length c1) ∧ OwB base w (.slice A1 Ls[j].length c1) Ls[j] := by
  obtain ⟨ts, hT, hR⟩ := h
  have hl := hR.len
  obtain ⟨A', c', he, _, _, hr⟩ := hT.rd rc_len
  obtain ⟨rfl, _, rfl⟩ : A = A' ∧ n = ts.length ∧ c = c' := by simpa using he
  obtain ⟨b, off, rfl, hb, e⟩ := hr.row (k := j) (by omega)
  have hg := hR.get (i := j) (by omega) hj
  obtain ⟨A1, c1, hs⟩ := hg.shape
  rw [hs] at e hg
  exact ⟨b, off, A1, c1, rfl, hb, e, hg⟩
theorem rparts_any {v : Value} (l : List Bar) (w : World) (h : SlB w v l) (hok : NetOk l) : Calls Tryz.prog 27 #[v] w (RRB w (rprt l l.length)) := by
  have hS0 := h
  obtain ⟨A, c, rfl, hlc, hcm, h⟩ := h
  have HK := Lib.hid hok
  have hlen := hok.len
  clear hok
  go_enter Tryz.func27, Tryz.ntmps27
  go_wp2
  go_loopw [3, 4] (fun o i wr => ∃ k : Nat, k ≤ l.length ∧ i = .int .i64 k ∧ OwRR w.heap.size wr o (rprt l k) ∧ Below w.heap.size w wr) (fun _ i _ => l.length - (intOf i).toNat)
  case atStart => exact ⟨0, Nat.zero_le _, rfl, OwRR.nil_, by (repeat (first | exact bl_refl | assumption | (apply bl_then; assumption) | refine bl_alloc ?_ _ | refine bl_drew ?_ | refine bl_drewN ?_ _))⟩
  case round =>
    obtain ⟨k, hk, rfl, hO, hbw⟩ := hrel
    obtain ⟨wo, rfl⟩ : ∃ x, x = wr := ⟨_, rfl⟩
    by_cases hlt : k < l.length
    · have hr := h.below hbw
      obtain ⟨b, off, rfl, hb, e0, e1, e2⟩ := hr.bar hlt
      have hmem := List.getElem_mem hlt
      have HD := Lib.hid (rprt_succ hlt)
      have hpl := rprt_len l k
      obtain ⟨O, hOO⟩ : ∃ O, rprt l k = O := ⟨_, rfl⟩
      rw [hOO] at HD hpl hO
      clear hOO
      obtain ⟨⟨x, y, s⟩, hx⟩ : ∃ z, l[k] = z := ⟨_, rfl⟩
      rw [hx] at e0 e1 e2 HD hmem
      simp only at e0 e1 e2
      have HX := Lib.hid hx
      clear hx hr e0 e1 e2 hb
      obtain ⟨A3, c3, rfl⟩ := hO.shape
      go_wp2
      go_loopw [5, 6] (fun f i wr => ∃ j : Nat, j ≤ O.length ∧ i = .int .i64 j ∧ f = .bool (decide ((x, y, s) ∈ (O.take j).flatten)) ∧ Below wo.heap.size wo wr) (fun _ i _ => O.length - (intOf i).toNat)
      case atStart => exact ⟨0, Nat.zero_le _, rfl, by simp, by (repeat (first | exact bl_refl | assumption | (apply bl_then; assumption) | refine bl_alloc ?_ _ | refine bl_drew ?_ | refine bl_drewN ?_ _))⟩
      case round =>
        obtain ⟨j, hj, rfl, rfl, hbj⟩ := hrel
        obtain ⟨wj, rfl⟩ : ∃ x, x = wr := ⟨_, rfl⟩
        have hbw2 := bl_then hbj hbw
        obtain ⟨q, hq⟩ : ∃ q, decide ((x, y, s) ∈ (O.take j).flatten) = q := ⟨_, rfl⟩
        rw [hq]
        by_cases hjl : j < O.length
        · have HF := Lib.hid (flat_take hjl)
          cases q
          · obtain ⟨b4, off4, A4, c4, rfl, hb4, z0, hrow⟩ := (hO.below hbj).get rfl hjl
            obtain ⟨hb5, e0, e1, e2⟩ := (h.below hbw2).barAt hlt
            rw [HX.out] at e0 e1 e2
            simp only at e0 e1 e2
            obtain ⟨g, hg⟩ : ∃ g, hasb O[j] (x, y, s) = g := ⟨_, rfl⟩
            have ch := fun W z (p : SlB W z O[j]) => has_any O[j] x y s W p
            rw [hg] at ch
            have HQ : Hid (decide ((x, y, s) ∈ (O.take (j + 1)).flatten) = g) := by
              have hn := of_decide_eq_false hq
              unfold Hid
              rw [HF.out, ← hg]
              unfold hasb
              simp only [List.mem_append, hn, false_or]
            have hrow' := hrow.rd bc_len
            clear hq HF hg hrow
            go_wp2
            refine wp_region_ords [0, 1, 2, 3, 4, 5, 6, 7, 8, 9] [] [10, 11, 12] (by kernel_rfl) (by kernel_rfl) (fun d _ _ _ _ h => by cases d <;> exact h) ?_
            simp only [List.map_cons, List.map_nil, List.getD_cons_zero, List.getD_cons_succ]
            repeat (go_big_quiet_step (fail))
            refine wpQuiet_nil ?_
            refine wpMid_nil ?_
            go_wp2_with fail
            refine (ch _ _ (hrow'.below (by (repeat (first | exact bl_refl | assumption | (apply bl_then; assumption) | refine bl_alloc ?_ _ | refine bl_drew ?_ | refine bl_drewN ?_ _))))).mono ?_
            rintro e w5 ⟨rfl, hb6⟩
            go_wp2
            go_roundw
            case rel => exact ⟨j + 1, by omega, by go_num, by rw [HQ.out], by (repeat (first | exact bl_refl | assumption | (apply bl_then; assumption) | refine bl_alloc ?_ _ | refine bl_drew ?_ | refine bl_drewN ?_ _))⟩
            case measure => simp [intOf]; omega
          · have HQ : Hid (decide ((x, y, s) ∈ (O.take (j + 1)).flatten) = true) := by
              unfold Hid; rw [HF.out]; exact decide_eq_true (List.mem_append_left _ (of_decide_eq_true hq))
            clear hq HF
            go_wp2
            refine wp_region_ords [0, 1, 2, 3, 4, 5, 6, 7, 8, 9] [] [10, 11, 12] (by kernel_rfl) (by kernel_rfl) (fun d _ _ _ _ h => by cases d <;> exact h) ?_
            simp only [List.map_cons, List.map_nil, List.getD_cons_zero, List.getD_cons_succ]
            repeat (go_big_quiet_step (fail))
            refine wpQuiet_nil ?_
            refine wpMid_nil ?_
            go_wp2
            go_roundw
            case rel => exact ⟨j + 1, by omega, by go_num, by rw [HQ.out], by (repeat (first | exact bl_refl | assumption | (apply bl_then; assumption) | refine bl_alloc ?_ _ | refine bl_drew ?_ | refine bl_drewN ?_ _))⟩
            case measure => simp [intOf]; omega
        · have HJ : Hid (O.take j = O) := List.take_of_length_le (by omega)
          rw [HJ.out] at hq
          cases q
          · have HD2 : Hid (rprt l (k + 1) = O ++ [rpart l (x, y, s)]) := by unfold Hid; rw [HD.out, if_neg (of_decide_eq_false hq)]
            obtain ⟨hb5, e0, e1, e2⟩ := (h.below hbw2).barAt hlt
            rw [HX.out] at e0 e1 e2
            simp only at e0 e1 e2
            clear hq HD
            go_wp2_with fail
            refine (rpart_any l x y s _ (hS0.below (by (repeat (first | exact bl_refl | assumption | (apply bl_then; assumption) | refine bl_alloc ?_ _ | refine bl_drew ?_ | refine bl_drewN ?_ _)))) HK.out hmem).mono ?_
            rintro e w5 ⟨v5, rfl, hP5, hb6⟩
            obtain ⟨A5, c5, rfl⟩ := hP5.shape
            have hP6 := hP5.base_mono (show w.heap.size ≤ _ from hbw2.size)
            obtain ⟨ts, hT, hR⟩ := hO.below (show Below wo.heap.size wo w5 from bl_then hb6 hbj)
            have hbw5 : Below w.heap.size w w5 := bl_then hb6 hbw2
            have htl := hR.len
            have htl2 : ts.length ≤ 4096 := by omega
            clear hP5 hO hb6
            go_wp2_with (at_builtin; refine wpList_appR hT rfl _ _ rfl rfl rfl rfl (by omega) hbw5.size ?_; intro v9 w9 hT9 hg9)
            have hTa := hT.alloc (.cells #[.slice A5 (rpart l (x, y, s)).length c5] 26)
            have hPa := hP6.alloc (.cells #[.slice A5 (rpart l (x, y, s)).length c5] 26)
            have hRa : RowsAt w.heap.size (w5.alloc (.cells #[.slice A5 (rpart l (x, y, s)).length c5] 26)) ts O := hR.map_ fun v L h => h.alloc _
            have hP9 := hPa.kept hg9 (hPa.ne_own hTa (by decide))
            have hR9 : RowsAt w.heap.size w9 (ts ++ [(A5, (rpart l (x, y, s)).length, c5)]) (O ++ [rpart l (x, y, s)]) := (hRa.map_ fun v L h => h.kept hg9 (h.ne_own hTa (by decide))).snoc hP9
            have hbw9 : Below w.heap.size w w9 := bl_grown hg9 (bl_alloc hbw5 _) (fun k e => (hT.lt k e).1)
            clear hTa hPa hRa hP9 hT hR
            go_wp2
            go_roundw
            case rel => exact ⟨k + 1, by omega, by go_num, ⟨_, hT9, by rw [HD2.out]; exact hR9⟩, hbw9⟩
            case measure => simp [intOf]; omega
          · have HD2 : Hid (rprt l (k + 1) = O) := by unfold Hid; rw [HD.out, if_pos (of_decide_eq_true hq)]
            have hO2 := hO.below hbj
            clear hq HD
            go_wp2
            go_roundw
            case rel => exact ⟨k + 1, by omega, by go_num, by rw [HD2.out]; exact hO2, hbw2⟩
            case measure => simp [intOf]; omega
    · have hE : Hid (rprt l k = rprt l l.length) := by unfold Hid; rw [show k = l.length by omega]
      rw [hE.out] at hO
      go_wp2
      go_ret
      exact ⟨_, rfl, hO, hbw⟩
theorem sameNets_any {v u : Value} {base base' : Nat} (l r : List (List Bar)) (w : World) (h : OwRR base w v l) (h' : OwRR base' w u r) (hl : l.length ≤ 100000) (hl' : r.length ≤ 100000) : Calls Tryz.prog 26 #[v, u] w (RV w (.bool (decide (l = r)))) := by
  obtain ⟨A, c, rfl⟩ := h.shape
  obtain ⟨A', c', rfl⟩ := h'.shape
  by_cases hlen : l.length = r.length
  · have he2 : ((l.length : Int) != (r.length : Int)) = false := by simp [hlen]
    have HL := Lib.hid hlen
    clear hlen
    go_enter Tryz.func26, Tryz.ntmps26
    go_wp2
    go_loopw [5] (fun i wr => ∃ k : Nat, k ≤ l.length ∧ i = .int .i64 k ∧ Hid (decide (l = r) = decide (l.drop k = r.drop k)) ∧ Below w.heap.size w wr) (fun i _ => l.length - (intOf i).toNat)
    case atStart => exact ⟨0, Nat.zero_le _, rfl, by simp [Hid], by (repeat (first | exact bl_refl | assumption | (apply bl_then; assumption) | refine bl_alloc ?_ _ | refine bl_drew ?_ | refine bl_drewN ?_ _))⟩
    case round =>
      obtain ⟨k, hk, rfl, H, hbw⟩ := hrel
      obtain ⟨wo, rfl⟩ : ∃ x, x = wr := ⟨_, rfl⟩
      by_cases hlt : k < l.length
      · have hlt' : k < r.length := by have := HL.out; omega
        obtain ⟨b, off, A1, c1, rfl, hb, z0, hrow⟩ := (h.below hbw).get rfl hlt
        obtain ⟨b', off', A1', c1', rfl, hb', z0', hrow'⟩ := (h'.below hbw).get rfl hlt'
        have HD := Lib.hid (same_drop HL.out hlt)
        obtain ⟨g, hg⟩ : ∃ g, decide (l[k] = r[k]) = g := ⟨_, rfl⟩
        have cs := fun W z z' (p : SlB W z l[k]) (p' : SlB W z' r[k]) => sameBars_any l[k] r[k] W p p'
        rw [hg] at cs HD
        have hq := hrow.rd bc_len
        have hq' := hrow'.rd bc_len
        clear hg hrow hrow'
        cases g
        · go_wp2
          refine wp_region_ords [0, 1, 2, 3, 4, 5, 6, 7] [] [8, 9] (by kernel_rfl) (by kernel_rfl) (fun d _ _ _ _ h => by cases d <;> exact h) ?_
          simp only [List.map_cons, List.map_nil, List.getD_cons_zero, List.getD_cons_succ]
          repeat (go_big_quiet_step (fail))
          refine wpQuiet_nil ?_
          refine wpMid_nil ?_
          go_wp2_with fail
          refine (cs _ _ _ (hq.below (by (repeat (first | exact bl_refl | assumption | (apply bl_then; assumption) | refine bl_alloc ?_ _ | refine bl_drew ?_ | refine bl_drewN ?_ _)))) (hq'.below (by (repeat (first | exact bl_refl | assumption | (apply bl_then; assumption) | refine bl_alloc ?_ _ | refine bl_drew ?_ | refine bl_drewN ?_ _))))).mono ?_
          rintro e w5 ⟨rfl, hb5⟩
          go_wp2
          go_ret
          exact ⟨ret_bool (by rw [H.out, HD.out]; rfl), by (repeat (first | exact bl_refl | assumption | (apply bl_then; assumption) | refine bl_alloc ?_ _ | refine bl_drew ?_ | refine bl_drewN ?_ _))⟩
        · have HK2 : Hid (decide (l = r) = decide (l.drop (k + 1) = r.drop (k + 1))) := by unfold Hid; rw [H.out, HD.out]; rfl
          clear H HD
          go_wp2
          refine wp_region_ords [0, 1, 2, 3, 4, 5, 6, 7] [] [8, 9] (by kernel_rfl) (by kernel_rfl) (fun d _ _ _ _ h => by cases d <;> exact h) ?_
          simp only [List.map_cons, List.map_nil, List.getD_cons_zero, List.getD_cons_succ]
          repeat (go_big_quiet_step (fail))
          refine wpQuiet_nil ?_
          refine wpMid_nil ?_
          go_wp2_with fail
          refine (cs _ _ _ (hq.below (by (repeat (first | exact bl_refl | assumption | (apply bl_then; assumption) | refine bl_alloc ?_ _ | refine bl_drew ?_ | refine bl_drewN ?_ _)))) (hq'.below (by (repeat (first | exact bl_refl | assumption | (apply bl_then; assumption) | refine bl_alloc ?_ _ | refine bl_drew ?_ | refine bl_drewN ?_ _))))).mono ?_
          rintro e w5 ⟨rfl, hb5⟩
          go_wp2
          go_roundw
          case rel => exact ⟨k + 1, by omega, by go_num, HK2, by (repeat (first | exact bl_refl | assumption | (apply bl_then; assumption) | refine bl_alloc ?_ _ | refine bl_drew ?_ | refine bl_drewN ?_ _))⟩
          case measure => simp [intOf]; omega
      · have hkl : k = l.length := by omega
        go_wp2
        go_ret
        refine ⟨ret_bool ?_, by (repeat (first | exact bl_refl | assumption | (apply bl_then; assumption) | refine bl_alloc ?_ _ | refine bl_drew ?_ | refine bl_drewN ?_ _))⟩
        rw [H.out, hkl, List.drop_length, HL.out, List.drop_length]; rfl
  · have he2 : ((l.length : Int) != (r.length : Int)) = true := by simp; omega
    have hd : Hid (decide (l = r) = false) := by simp [Hid]; rintro rfl; exact hlen rfl
    go_enter Tryz.func26, Tryz.ntmps26
    go_wp2
    go_ret
    exact ⟨ret_bool hd.out.symm, by (repeat (first | exact bl_refl | assumption | (apply bl_then; assumption) | refine bl_alloc ?_ _ | refine bl_drew ?_ | refine bl_drewN ?_ _))⟩
theorem rcount_any {v : Value} (l : List Bar) (w : World) (h : SlB w v l) (hE : netE l = 0) : Calls Tryz.prog 28 #[v] w (RV w (.agg (cntA l))) := by
  have h0 := h
  have hB := Blk.new w 45 zer5
  have hok := netE_ok hE
  have hl1 := hok.len1
  have hkl : (holeK l).length ≤ 20000 := by rw [← kIn_all (l := l) (Nat.le_refl _)]; have := kIn_len l (2 * l.length); omega
  have hml := meshL_len l l
  have hpl : (rprt l l.length).length ≤ l.length := rprt_len l _
  have HS : Hid (cntA l = #[.int .i64 (holeK l).length, .int .i64 l.length, .int .i64 (meshL l l).length, .int .i64 (rprt l l.length).length, .int .i64 ((l.length : Int) - (holeK l).length + (rprt l l.length).length - (meshL l l).length)]) := by
    unfold Hid cntA; rw [if_pos hE, parts_ref hok.sorted (fun b hb => (hok.ok b hb).2.2)]
  clear hE
  have fB := hB.facts
  have hK1 := fun W (hW : SlB W v l) => rknots_any l W hW hok.ok hl1
  have hM1 := fun W (hW : SlB W v l) => rmeshes_any l W hW hok.ok hl1
  have hP1 := fun W (hW : SlB W v l) => rparts_any l W hW hok
  obtain ⟨kn, hkn⟩ : ∃ n, (holeK l).length = n := ⟨_, rfl⟩
  obtain ⟨ml, hmn⟩ : ∃ n, (meshL l l).length = n := ⟨_, rfl⟩
  obtain ⟨pn, hpn⟩ : ∃ n, (rprt l l.length).length = n := ⟨_, rfl⟩
  rw [hkn, hmn, hpn] at HS
  rw [hkn] at hkl
  rw [hmn] at hml
  rw [hpn] at hpl
  have HN := Lib.hid (And.intro hkn (And.intro hmn hpn))
  clear hkn hmn hpn
  obtain ⟨A, c, rfl, hlc, hcm, hr⟩ := h
  go_enter Tryz.func28, Tryz.ntmps28
  go_wp2_with fail
  go_at_call 45
  refine (hK1 _ (h0.below (by (repeat (first | exact bl_refl | assumption | (apply bl_then; assumption) | refine bl_alloc ?_ _ | refine bl_drew ?_ | refine bl_drewN ?_ _))))).mono ?_
  rintro e w2 ⟨v2, rfl, hO2, hb2⟩
  obtain ⟨A2, c2, rfl⟩ := hO2.shape
  rw [HN.out.1]
  have hw2 := h0.below (show Below w.heap.size w w2 by (repeat (first | exact bl_refl | assumption | (apply bl_then; assumption) | refine bl_alloc ?_ _ | refine bl_drew ?_ | refine bl_drewN ?_ _)))
  have hB2 := hB.below hb2
  go_wp2_with fail
  go_at_call 49
  refine (hM1 _ hw2).mono ?_
  rintro e w3 ⟨v3, rfl, hO3, hb3⟩
  obtain ⟨A3, c3, rfl⟩ := hO3.shape
  rw [HN.out.2.1]
  have hw3 := hw2.below hb3
  have hB3 := hB2.below hb3
  go_wp2_with fail
  go_at_call 27
  refine (hP1 _ hw3).mono ?_
  rintro e w4 ⟨v4, rfl, hO4, hb4⟩
  obtain ⟨A4, c4, rfl⟩ := hO4.shape
  rw [HN.out.2.2]
  have hB4 := hB3.below hb4
  have hbw4 : Below w.heap.size w w4 := by (repeat (first | exact bl_refl | assumption | (apply bl_then; assumption) | refine bl_alloc ?_ _ | refine bl_drew ?_ | refine bl_drewN ?_ _))
  clear fB hb2 hb3 hb4 hO2 hO3 hO4
  go_wp2_with (refine wpList_store_blk (hB4.alloc _) rfl _ _ _ rfl rfl rfl (by rfl) (by kernel_rfl) (by kernel_rfl) ?_; intro w5 hR5 hc5; have fR5 := hR5.facts)
  have hb5 : Below w.heap.size w w5 := ((Chg.of_below (bl_alloc hbw4 _)).trans (hc5.mono (S' := [w.heap.size]) (by simp))).below (by simp) (Nat.le_refl _)
  refine bodyPost_ret (v := .agg #[.int .i64 kn, .int .i64 l.length, .int .i64 ml, .int .i64 pn, .int .i64 ((l.length : Int) - kn + pn - ml)]) (by simp [results, Tryz.results28, go_sem, fR5]) rfl ?_
  exact ⟨by rw [HS.out], hb5⟩
end Go.Proofs.YtkmjcoofkgpanaaGreatDoor

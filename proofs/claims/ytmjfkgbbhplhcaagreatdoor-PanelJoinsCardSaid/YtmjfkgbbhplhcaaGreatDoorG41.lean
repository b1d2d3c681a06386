/- The reference: errors of edges and sides, walked. Conditions: bounds. -/
import Derived.Test.YtmjfkgbbhplhcaaGreatDoorG19
import Derived.Test.YtmjfkgbbhplhcaaGreatDoorG40
namespace Go.Proofs.YtmjfkgbbhplhcaaGreatDoor
open Go.RowKit Go.ChangeMaps
set_option maxHeartbeats 4000000
set_option maxRecDepth 100000

attribute [local go_sem] Oper.semAt_some
/-! # The reference: errors of edges and sides -/
theorem rcheckEdge_any (e : Edg) (w : World) (hl : e.1.length ≤ 1000000) : Calls Tryz.prog 92 #[.agg #[sV e.1, .int .i64 e.2.1, .bool e.2.2]] w (RV w (.int .i64 (edgE e))) := by
  obtain ⟨s, t, o⟩ := e
  simp only at hl ⊢
  by_cases h0 : s = []
  · have HE : Hid (edgE (s, t, o) = 12) := by unfold Hid edgE; rw [decide_eq_true h0]; rfl
    obtain ⟨E, hE⟩ : ∃ E, edgE (s, t, o) = E := ⟨_, rfl⟩
    rw [hE] at HE ⊢
    subst h0
    have hK := (Blk.new w 97 #[.string ⟨#[]⟩, .int .i64 t, .bool o]).facts
    unfold sV
    clear hE
    go_enter Tryz.func92, Tryz.ntmps92
    go_wp2
    go_ret
    exact ⟨by rw [HE.out]; rfl, by (repeat (first | exact bl_refl | assumption | (apply bl_then; assumption) | refine bl_alloc ?_ _ | refine bl_drew ?_ | refine bl_drewN ?_ _))⟩
  obtain ⟨B, hB⟩ : ∃ B : ByteArray, ({ data := s.toArray } : ByteArray) = B := ⟨_, rfl⟩
  have hsz : B.size = s.length := by rw [← hB]; rfl
  have hBl : B.toList = s := by rw [← hB]; simp [ByteArray.toList_eq]
  have g1 : (B.toList == []) = false := by rw [hBl]; cases s <;> simp_all
  have g2 : B.toList.isEmpty = false := by rw [hBl]; cases s <;> simp_all
  have g3 : (B.toList = []) = False := by rw [hBl]; simpa using h0
  have hget : ∀ k (h : k < s.length), (B[k]'(by rw [hsz]; exact h)) = s[k] := fun k h => by subst hB; rfl
  have hK := Blk.new w 97 #[.string B, .int .i64 t, .bool o]
  have fK := hK.facts
  have HGt := Lib.hid hget
  by_cases h64 : 64 < s.length
  · have HE : Hid (edgE (s, t, o) = 26) := by unfold Hid edgE; rw [decide_eq_false h0, decide_eq_true h64]; rfl
    obtain ⟨E, hE⟩ : ∃ E, edgE (s, t, o) = E := ⟨_, rfl⟩
    rw [hE] at HE ⊢
    have t1 : (64 < (s.length : Int)) = True := eq_true (by omega)
    unfold sV
    rw [hB]
    clear hE hB hBl h0 h64 hget
    go_enter Tryz.func92, Tryz.ntmps92
    go_wp2
    go_ret
    exact ⟨by rw [HE.out]; rfl, by (repeat (first | exact bl_refl | assumption | (apply bl_then; assumption) | refine bl_alloc ?_ _ | refine bl_drew ?_ | refine bl_drewN ?_ _))⟩
  have HE : Hid (edgE (s, t, o) = firstI [whenI (wrongW s) 1, withinI t 1 64]) := by unfold Hid edgE; rw [decide_eq_false h0, decide_eq_false h64]; rfl
  obtain ⟨E, hE⟩ : ∃ E, edgE (s, t, o) = E := ⟨_, rfl⟩
  rw [hE] at HE ⊢
  have t1 : (64 < (s.length : Int)) = False := eq_false (by omega)
  unfold sV
  rw [hB]
  clear hE hB hBl h0 h64 hget
  go_enter Tryz.func92, Tryz.ntmps92
  go_wp2
  obtain ⟨w1, hw1⟩ : ∃ X, w.alloc (.cells #[.string B, .int .i64 t, .bool o] 97) = X := ⟨_, rfl⟩
  have hb1 : Below w.heap.size w w1 := by rw [← hw1]; exact bl_alloc bl_refl _
  rw [hw1] at hK fK ⊢
  clear hw1
  go_loopw [3] (fun i wr => ∃ k : Nat, k ≤ s.length ∧ i = .int .i64 k ∧ Hid (wrongW (s.take k) = false) ∧ wr = w1) (fun i _ => s.length - (intOf i).toNat)
  case atStart => exact ⟨0, Nat.zero_le _, rfl, rfl, rfl⟩
  case round =>
    obtain ⟨k, hk, rfl, H, rfl⟩ := hrel
    by_cases hlt : k < s.length
    · have hp : k < B.size := by omega
      have HW := Lib.hid (wrong_at hlt)
      have HI := Lib.hid (wrong_in hlt)
      have HO := Lib.hid (okN_eq s[k])
      obtain ⟨n, hn⟩ : ∃ n : Nat, (B[k]'hp).toNat = n := ⟨_, rfl⟩
      have hnb : n < 256 := by rw [← hn]; exact UInt8.toNat_lt _
      have hg : s[k].toNat = n := by rw [← hn, HGt.out k hlt]
      rw [hg] at HO
      clear hg
      by_cases h1 : n = 78 ∨ n = 66 ∨ n = 84
      · have hn2 : okN n = true := by unfold okN; rcases h1 with rfl | rfl | rfl <;> rfl
        have HT : Hid (wrongW (s.take (k + 1)) = false) := by unfold Hid; rw [HW.out, H.out, HO.out, hn2]; rfl
        clear hn2
        rcases h1 with rfl | rfl | rfl
        all_goals
          go_wp2
          go_roundw
          case rel => exact ⟨k + 1, by omega, by go_num, HT.out, trivial⟩
          case measure => simp [intOf]; omega
      · have c1 : ((n : Int) != 78) = true := by rw [bne_iff_ne]; omega
        have c2 : ((n : Int) != 66) = true := by rw [bne_iff_ne]; omega
        have c3 : ((n : Int) != 84) = true := by rw [bne_iff_ne]; omega
        have hn2 : okN n = false := by
          unfold okN
          rw [decide_eq_false (by omega), decide_eq_false (by omega), decide_eq_false (by omega)]
          rfl
        have HT : Hid (E = 1) := by unfold Hid; rw [HE.out, HI.out (by rw [HO.out, hn2])]; rfl
        clear h1 hn2
        go_wp2
        go_ret
        exact ⟨by rw [HT.out]; rfl, hb1⟩
    · obtain rfl : k = s.length := by omega
      have HT : Hid (E = withinI t 1 64) := by
        unfold Hid
        have h := H.out
        rw [List.take_length] at h
        rw [HE.out, h]
        unfold whenI
        simp only [firstI, Bool.false_eq_true, if_false]
        split <;> simp_all
      go_wp2_with (go_at_call 12; refine (rrange_any t 1 64 _).mono ?_; rintro e w2 ⟨rfl, hb2⟩)
      go_ret
      exact ⟨by rw [HT.out]; rfl, by (repeat (first | exact bl_refl | assumption | (apply bl_then; assumption) | refine bl_alloc ?_ _ | refine bl_drew ?_ | refine bl_drewN ?_ _))⟩
theorem rcheckSide_any {v : Value} (l : List Edg) (w : World) (h : SlE w v l) (hwd : ∀ e ∈ l, e.1.length ≤ 1000000) : Calls Tryz.prog 51 #[v] w (RV w (.int .i64 (sideE l))) := by
  obtain ⟨A, c, rfl, hlc, hcm, hr⟩ := h
  have hl : l.length ≤ maxLen := Nat.le_trans hlc hcm
  unfold maxLen at hl
  by_cases h64 : 64 < l.length
  · have HS : Hid (sideE l = 5) := by unfold Hid sideE; rw [if_pos h64]
    go_enter Tryz.func51, Tryz.ntmps51
    go_wp2
    go_ret
    exact ⟨by rw [HS.out]; rfl, by (repeat (first | exact bl_refl | assumption | (apply bl_then; assumption) | refine bl_alloc ?_ _ | refine bl_drew ?_ | refine bl_drewN ?_ _))⟩
  have HS : Hid (sideE l = sideGo l 0) := by unfold Hid sideE; rw [if_neg h64]
  have t1 : (64 < (l.length : Int)) = False := eq_false (by omega)
  have h65 : l.length ≤ 64 := by omega
  clear h64
  go_enter Tryz.func51, Tryz.ntmps51
  go_wp2
  go_loopw [3, 4] (fun n i wr => ∃ (k : Nat) (m : Int), k ≤ l.length ∧ i = .int .i64 k ∧ n = .int .i64 m ∧ (0 ≤ m ∧ m ≤ 4096 * (k : Int)) ∧ Hid (sideGo l 0 = sideGo (l.drop k) m) ∧ Below w.heap.size w wr) (fun _ i _ => l.length - (intOf i).toNat)
  case atStart => exact ⟨0, 0, Nat.zero_le _, rfl, rfl, by omega, rfl, by (repeat (first | exact bl_refl | assumption | (apply bl_then; assumption) | refine bl_alloc ?_ _ | refine bl_drew ?_ | refine bl_drewN ?_ _))⟩
  case round =>
    obtain ⟨k, m, hk, rfl, rfl, hm, H, hbw⟩ := hrel
    obtain ⟨wo, rfl⟩ : ∃ x, x = wr := ⟨_, rfl⟩
    by_cases hlt : k < l.length
    · obtain ⟨b, off, rfl, hb, e0, e1, e2⟩ := (hr.below hbw).edge hlt
      have HD := Lib.hid (sideGo_at hlt m)
      have HM := Lib.hid (edgS_mul l[k])
      have HZ := Lib.hid (edgE_zero (e := l[k]))
      have HC := fun W => rcheckEdge_any l[k] W (hwd _ (List.getElem_mem hlt))
      obtain ⟨⟨s, t, o⟩, hx⟩ : ∃ z, l[k] = z := ⟨_, rfl⟩
      rw [hx] at e0 e1 e2 HD HM HZ HC
      simp only at e0 e1 e2 HC
      unfold sV at HC
      obtain ⟨E, hE⟩ : ∃ E, edgE (s, t, o) = E := ⟨_, rfl⟩
      rw [hE] at HC HD HM HZ
      clear hx hE
      go_wp2_with fail
      refine (HC _).mono ?_
      rintro e w2 ⟨rfl, hb2⟩
      have hbw2 : Below w.heap.size w w2 := by (repeat (first | exact bl_refl | assumption | (apply bl_then; assumption) | refine bl_alloc ?_ _ | refine bl_drew ?_ | refine bl_drewN ?_ _))
      have x0 : w2.cell? ⟨b, off + k * 3, none⟩ = some (.string ⟨s.toArray⟩) := (hb2.cell (p := ⟨b, off + k * 3, none⟩) hb).trans e0
      have x1 : w2.cell? ⟨b, off + k * 3 + 1, none⟩ = some (.int .i64 t) := (hb2.cell (p := ⟨b, off + k * 3 + 1, none⟩) hb).trans e1
      have hbl2 : b < w2.heap.size := Nat.lt_of_lt_of_le hb hb2.size
      by_cases hE0 : E = 0
      · have hE' : (E != 0) = false := by simp [hE0]
        obtain ⟨_, q2, _, q4, q5⟩ := HZ.out hE0
        have q2' : s.length ≤ 64 := q2
        have q4' : 1 ≤ t := q4
        have q5' : t ≤ 64 := q5
        clear q2 q4 q5
        have hmul : 0 ≤ (s.length : Int) * t ∧ (s.length : Int) * t ≤ 64 * 64 := by
          obtain ⟨tn, rfl⟩ : ∃ tn : Nat, t = tn := ⟨t.toNat, by omega⟩
          have := Nat.mul_le_mul q2' (show tn ≤ 64 by omega)
          exact ⟨Int.mul_nonneg (by omega) (by omega), by exact_mod_cast this⟩
        obtain ⟨P, hP⟩ : ∃ P, (s.length : Int) * t = P := ⟨_, rfl⟩
        have hsz : (({ data := s.toArray } : ByteArray)).size = s.length := rfl
        rw [hP] at hmul
        have HN : Hid (sideGo l 0 = sideGo (l.drop (k + 1)) (m + P)) := by
          unfold Hid
          rw [H.out, HD.out, if_pos hE0, ← hP]
        clear hE0 e0 e1 e2 hb
        go_upto_region 10 with fail
        refine wp_region_ords [0, 1, 2, 3, 4, 5, 6, 7, 8, 9, 10, 11, 12, 13, 14] [] [] (by kernel_rfl) (by kernel_rfl) (fun d _ _ _ _ h => by cases d <;> exact h) ?_
        simp only [List.map_cons, List.map_nil, List.getD_cons_zero, List.getD_cons_succ]
        repeat (go_big_quiet_step (fail))
        refine wpQuiet_nil ?_
        refine wpMid_nil ?_
        go_wp2
        go_roundw
        case rel => exact ⟨k + 1, m + P, by omega, by go_num, rfl, by push_cast; omega, HN.out, by (repeat (first | exact bl_refl | assumption | (apply bl_then; assumption) | refine bl_alloc ?_ _ | refine bl_drew ?_ | refine bl_drewN ?_ _))⟩
        case measure => simp [intOf]; omega
      · have hE' : (E != 0) = true := by simp [hE0]
        have HN : Hid (sideGo l 0 = E) := by unfold Hid; rw [H.out, HD.out, if_neg hE0]
        clear hE0
        go_wp2
        go_ret
        exact ⟨by rw [HS.out, HN.out]; rfl, hbw2⟩
    · obtain rfl : k = l.length := by omega
      have HN : Hid (sideGo l 0 = whenI (decide (512 < m)) 5) := by unfold Hid; rw [H.out, List.drop_length]; rfl
      by_cases h5 : 512 < m
      · have HN2 : Hid (sideGo l 0 = 5) := by unfold Hid; rw [HN.out, decide_eq_true h5]; rfl
        go_wp2
        go_ret
        exact ⟨by rw [HS.out, HN2.out]; rfl, by (repeat (first | exact bl_refl | assumption | (apply bl_then; assumption) | refine bl_alloc ?_ _ | refine bl_drew ?_ | refine bl_drewN ?_ _))⟩
      · have HN2 : Hid (sideGo l 0 = 0) := by unfold Hid; rw [HN.out, decide_eq_false h5]; rfl
        go_wp2
        go_ret
        exact ⟨by rw [HS.out, HN2.out]; rfl, by (repeat (first | exact bl_refl | assumption | (apply bl_then; assumption) | refine bl_alloc ?_ _ | refine bl_drew ?_ | refine bl_drewN ?_ _))⟩
end Go.Proofs.YtmjfkgbbhplhcaaGreatDoor

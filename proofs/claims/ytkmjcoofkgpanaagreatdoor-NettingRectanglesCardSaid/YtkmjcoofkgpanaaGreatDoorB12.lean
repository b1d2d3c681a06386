/- The canonical form of a net, of the program, walked. Conditions: the slices read as lists. -/
import Derived.Test.YtkmjcoofkgpanaaGreatDoorB11
import Derived.Deep.CutRange
import Derived.Test.YtkmjcoofkgpanaaGreatDoorB09
import Derived.Test.YtkmjcoofkgpanaaGreatDoorB10
namespace Go.Proofs.YtkmjcoofkgpanaaGreatDoor
open Go.RowKit Go.ChangeMaps
set_option maxHeartbeats 4000000
set_option maxRecDepth 100000

/-- the forms of a net, one by one: turned by quarters, then its mirror turned -/
def frm (l : List Bar) (k : Nat) : List Bar := if k < 4 then turnN k l else turnN (k - 4) (mirN l)
def hdK : List Bar → Knot
  | [] => (0, 0)
  | b :: _ => (-b.1, -b.2.1)
/-- a net shifted so that its first bar begins at the origin -/
def nrm (f : List Bar) : List Bar := f.map (shB (hdK f))
def bst (l : List Bar) : Nat → List Bar
  | 0 => []
  | k + 1 => if k = 0 ∨ cmpL (nrm (frm l k)) (bst l k) < 0 then nrm (frm l k) else bst l k
def allN (l : List Bar) : Nat → Bool
  | 0 => true
  | k + 1 => allN l k && allIn (nrm (frm l k))
def canE (l : List Bar) : Int := if netE l ≠ 0 then netE l else if l = [] then 0 else if allN l 8 then 0 else 3
def canL (l : List Bar) : List Bar := if netE l ≠ 0 ∨ l = [] then [] else if allN l 8 then bst l 8 else []
theorem allN_mono {l : List Bar} : ∀ {n m : Nat}, n ≤ m → allN l m = true → allN l n = true
  | n, 0, h, _ => by obtain rfl : n = 0 := by omega
                     rfl
  | n, m + 1, h, h2 => by
    by_cases e : n = m + 1
    · rw [e]; exact h2
    · rw [allN, Bool.and_eq_true] at h2
      exact allN_mono (by omega) h2.1
theorem frm_len (l : List Bar) (k : Nat) : (frm l k).length = l.length := by
  unfold frm
  split
  · exact turnN_len l k
  · rw [turnN_len]; unfold mirN; rw [srtB_length, List.length_map]
theorem mirN_ends {l : List Bar} (h : ∀ b ∈ l, EndsIn b) : ∀ b ∈ mirN l, EndsIn b := fun b hb => by
  unfold mirN at hb
  rw [srtB_mem, List.mem_map] at hb
  obtain ⟨c, hc, rfl⟩ := hb
  rw [mvB_mir]
  exact (h c hc).mir
theorem bst_ne {l : List Bar} (h : l ≠ []) : ∀ k, 0 < k → bst l k ≠ []
  | 0, h0 => by omega
  | k + 1, _ => by
    unfold bst
    split
    · intro e
      have h1 := frm_len l k
      have h2 : (nrm (frm l k)).length = 0 := by rw [e]; rfl
      unfold nrm at h2
      rw [List.length_map, h1] at h2
      exact h (List.eq_nil_of_length_eq_zero h2)
    · rename_i h2
      exact bst_ne h k (by omega)
theorem bst_len (l : List Bar) : ∀ k, (bst l k).length ≤ l.length
  | 0 => by simp [bst]
  | k + 1 => by
    unfold bst
    split
    · unfold nrm; rw [List.length_map, frm_len]; exact Nat.le_refl _
    · exact bst_len l k
theorem hdK_get {X : List Bar} (h : 0 < X.length) : hdK X = (-(X[0]).1, -(X[0]).2.1) := by
  cases X with
  | nil => simp at h
  | cons a r => rfl
theorem idx_two (A A' : Option Addr) (n n' c c' : Nat) (w : World) : (Instr.index 137 (.agg #[.slice A n c, .slice A' n' c']) (.int .i64 0)).run Tryz.prog w = .ok (.slice A n c) w ∧ (Instr.index 137 (.agg #[.slice A n c, .slice A' n' c']) (.int .i64 1)).run Tryz.prog w = .ok (.slice A' n' c') w := ⟨by kernel_rfl, by kernel_rfl⟩
theorem canon_any {v : Value} (l : List Bar) (w : World) (h : SlB w v l) : Calls Tryz.prog 29 #[v] w (RBE w (canL l) (canE l)) := by
  by_cases hE : netE l = 0
  · by_cases hl0 : l = []
    · have HS : Hid (canL l = [] ∧ canE l = 0) := by unfold Hid canL canE; rw [if_pos (.inr hl0), if_neg (by simpa using hE), if_pos hl0]; exact ⟨rfl, rfl⟩
      have hE' : (netE l != 0) = false := by simp [hE]
      have HE := Lib.hid hE
      obtain ⟨A, c, rfl, _, _, _⟩ := id h
      have hz : ((l.length : Int) == 0) = true := by rw [hl0]; rfl
      clear hE hl0
      go_enter Tryz.func29, Tryz.ntmps29
      go_wp2_with (go_at_call 64; refine (nnet_sl l _ h).mono ?_; rintro e w1 ⟨rfl, hb1⟩; (first | replace h := h.st0 hb1 | replace h := h.st1 hb1 | replace h := h.std hb1 | replace h := h.std1 hb1 | replace h := h.st2 hb1 | replace h := h.std2 hb1 | replace h := h.st3 hb1))
      go_ret2
      exact ⟨.slice none 0 0, by rw [HS.out.2]; exact congrArg Ending.returned (by simp [HE.out]), by rw [HS.out.1]; exact Own.nil_, by (repeat (first | exact bl_refl | assumption | (apply bl_then; assumption) | refine bl_alloc ?_ _ | refine bl_drew ?_ | refine bl_drewN ?_ _))⟩
    · have hok := netE_ok hE
      have hends := Lib.hid (netE_ends hE)
      have HO := Lib.hid hok
      have hlen := hok.len
      have HNE := Lib.hid hl0
      have HN0 := Lib.hid hE
      obtain ⟨A, c, rfl, _, _, _⟩ := id h
      have hlp : 0 < l.length := by cases l with | nil => exact absurd rfl hl0 | cons a r => simp
      have hE' : (netE l != 0) = false := by simp [hE]
      have hz : ((l.length : Int) == 0) = false := by simp; omega
      clear hE hl0 hok
      go_enter Tryz.func29, Tryz.ntmps29
      go_wp2_with (first | (go_at_call 64; refine (nnet_sl l _ h).mono ?_; rintro e w1 ⟨rfl, hb1⟩; (first | replace h := h.st0 hb1 | replace h := h.st1 hb1 | replace h := h.std hb1 | replace h := h.std1 hb1 | replace h := h.st2 hb1 | replace h := h.std2 hb1 | replace h := h.st3 hb1)) | (go_at_call 94; refine (moved_any mirK _ (.inl rfl) mirG mir_near l _ h HO.out.ok HO.out.len1).mono ?_; rintro e w2 ⟨v2, rfl, hO2, hb2⟩; obtain ⟨A2, c2, rfl⟩ := hO2.shape))
      have hM2 : SlB w2 _ (mirN l) := hO2.rd bc_len
      have hL2 := h.below hb2
      have hml : (mirN l).length = l.length := by unfold mirN; rw [srtB_length, List.length_map]
      have hbw2 : Below w.heap.size w w2 := by (repeat (first | exact bl_refl | assumption | (apply bl_then; assumption) | refine bl_alloc ?_ _ | refine bl_drew ?_ | refine bl_drewN ?_ _))
      rw [show (srtB (l.map (mvB mirK))).length = l.length from hml] at hM2 ⊢
      clear hO2 hb1 hb2
      go_loopw [5, 24] (fun o i wr => ∃ k1 : Nat, k1 ≤ 2 ∧ i = .int .i64 k1 ∧ Hid (allN l (4 * k1) = true) ∧ (k1 = 0 → o = .slice none 0 0) ∧ OwB w.heap.size wr o (bst l (4 * k1)) ∧ Below w2.heap.size w2 wr) (fun _ i _ => 2 - (intOf i).toNat)
      case atStart => exact ⟨0, by omega, rfl, rfl, fun _ => rfl, Own.nil_, Below.refl _ _⟩
      case round =>
        obtain ⟨k1, hk1, rfl, HA, hnil, hO, hbr⟩ := hrel
        obtain ⟨wo, rfl⟩ : ∃ x, x = wr := ⟨_, rfl⟩
        have hix := idx_two A A2 l.length l.length c c2
        by_cases hk2 : k1 < 2
        · obtain rfl | rfl : k1 = 0 ∨ k1 = 1 := by omega
          · obtain rfl := hnil rfl
            have hi0 := (hix wo).1
            have hFw := hL2.below hbr
            go_wp2
            go_loopw [5, 7, 27] (fun o f i wr => ∃ n : Nat, n ≤ 4 ∧ i = .int .i64 n ∧ Hid (allN l (4 * 0 + n) = true) ∧ (4 * 0 + n = 0 → o = .slice none 0 0) ∧ OwB w.heap.size wr o (bst l (4 * 0 + n)) ∧ SlB wr f (turnN n l) ∧ Below w2.heap.size w2 wr) (fun _ _ i _ => 4 - (intOf i).toNat)
            case atStart => exact ⟨0, by omega, rfl, HA, fun _ => rfl, hO, hFw, hbr⟩
            case round =>
              clear hi0 hFw HA hO hbr
              obtain ⟨n, hn, rfl, HA, hnil, hO, hf, hbr⟩ := hrel
              obtain ⟨wq, rfl⟩ : ∃ x, x = wr := ⟨_, rfl⟩
              by_cases hn4 : n < 4
              · have HX1 : Hid (turnN (n + 1) l = srtB ((turnN n l).map (mvB turnK))) := rfl
                have hfr : frm l (4 * 0 + n) = turnN n l := by unfold frm; rw [if_pos (by omega)]; congr 1; omega
                have hXl := turnN_len l n
                have hXe := Lib.hid (turnN_ends (l := l) hends.out n)
                obtain ⟨X, hX⟩ : ∃ X, turnN n l = X := ⟨_, rfl⟩
                rw [hX] at hf HX1 hfr hXl hXe
                have hXl2 : Hid (X.length = l.length) := by unfold Hid; rw [hXl]
                clear hX hXl
                obtain ⟨A3, c3, rfl, hlc3, hcm3, hr3⟩ := id hf
                have hX0 : 0 < X.length := by rw [hXl2.out]; exact hlp
                obtain ⟨b, off, rfl, hb, e0, e1, e2⟩ := hr3.bar hX0
                have hhd := hdK_get hX0
                have hbo := hXe.out _ (List.getElem_mem hX0)
                obtain ⟨⟨x0, y0, s0⟩, hx⟩ : ∃ z, X[0] = z := ⟨_, rfl⟩
                rw [hx] at e0 e1 e2 hhd hbo
                simp only [Nat.zero_mul, Nat.add_zero] at e0 e1 e2 hhd
                obtain ⟨bx, bY, _, _, _⟩ := hbo
                simp only at bx bY
                clear hx
                have m1 : IntKind.i64.wrap (-x0) = -x0 := by rw [IntWalk.i64_in _ (by omega)]
                have m2 : IntKind.i64.wrap (-y0) = -y0 := by rw [IntWalk.i64_in _ (by omega)]
                have hnx : Hid (nrm X = X.map (shB (-x0, -y0))) := by unfold Hid nrm; rw [hhd]
                have hsucc : Hid (allN l (4 * 0 + n + 1) = (allN l (4 * 0 + n) && allIn (nrm X))) := by unfold Hid; rw [allN, hfr]
                have hbs : Hid (bst l (4 * 0 + n + 1) = if 4 * 0 + n = 0 ∨ cmpL (nrm X) (bst l (4 * 0 + n)) < 0 then nrm X else bst l (4 * 0 + n)) := by unfold Hid; rw [bst, hfr]
                clear hhd hfr
                obtain ⟨q, hq⟩ : ∃ q, allIn (nrm X) = q := ⟨_, rfl⟩
                rw [hq, HA.out] at hsucc
                have hc : ∀ W, SlB W (.slice (some ⟨b, off, none⟩) X.length c3) X → Calls Tryz.prog 96 #[.slice (some ⟨b, off, none⟩) X.length c3, .agg #[.int .i64 (-x0), .int .i64 (-y0)]] W (RBE W (if q then nrm X else []) (if q then 0 else 3)) := fun W hW => by
                  have := nshifted_any X (-x0) (-y0) W hW (fun b hb => (hXe.out b hb).ok) (by rw [hXl2.out]; omega) (by omega) (by omega)
                  unfold shL shE at this
                  rw [← hnx.out, hq] at this
                  exact this
                clear hq
                go_upto_region 10 with fail
                cases q
                · have HS : Hid (canL l = [] ∧ canE l = 3) := by
                    have hA8 : allN l 8 = false := by
                      cases h8 : allN l 8 with
                      | false => rfl
                      | true =>
                        have := allN_mono (n := 4 * 0 + n + 1) (by omega) h8
                        rw [hsucc.out] at this
                        cases this
                    unfold Hid canL canE
                    simp [HN0.out, HNE.out, hA8]
                  simp only [Bool.false_eq_true, if_false] at hc
                  refine wp_region_ords [0, 1, 2, 3, 4, 5, 6, 7, 8, 9, 10, 11] [(12, false), (13, false), (14, true), (15, true), (16, false)] [17] (by kernel_rfl) (by kernel_rfl) (fun d _ _ _ _ h => by cases d <;> exact h) ?_
                  simp only [List.map_cons, List.map_nil, List.getD_cons_zero, List.getD_cons_succ]
                  repeat (go_big_quiet_step (fail))
                  refine wpQuiet_nil ?_
                  refine wpMid_run rfl (fun K hK => ?_)
                  go_simp
                  refine (hc _ (hf.below (by (repeat (first | exact bl_refl | assumption | (apply bl_then; assumption) | refine bl_alloc ?_ _ | refine bl_drew ?_ | refine bl_drewN ?_ _))))).mono ?_
                  rintro e w4 ⟨v4, rfl, hO4, hb4⟩
                  refine hK _ _ (by (repeat (first | exact bl_refl | assumption | (apply bl_then; assumption) | refine bl_alloc ?_ _ | refine bl_drew ?_ | refine bl_drewN ?_ _))) ?_
                  clear hK K
                  obtain ⟨A4, c4, rfl⟩ := hO4.shape
                  refine wpMid_run rfl (fun K hK => ?_)
                  go_simp
                  refine hK _ _ (by (repeat (first | exact bl_refl | assumption | (apply bl_then; assumption) | refine bl_alloc ?_ _ | refine bl_drew ?_ | refine bl_drewN ?_ _))) ?_
                  clear hK K
                  refine wpMid_take rfl ?_
                  intro K hK
                  go_big_quiet_op
                  go_big_quiet_on
                  refine wpMid_take rfl ?_
                  intro K hK
                  go_big_quiet_op
                  go_big_quiet_on
                  refine wpMid_run rfl (fun K hK => ?_)
                  go_simp
                  refine hK _ _ (by (repeat (first | exact bl_refl | assumption | (apply bl_then; assumption) | refine bl_alloc ?_ _ | refine bl_drew ?_ | refine bl_drewN ?_ _))) ?_
                  clear hK K
                  refine wpMid_nil ?_
                  go_wp2
                  go_ret2
                  exact ⟨_, by rw [HS.out.2]; rfl, by rw [HS.out.1]; exact Own.nil_, by (repeat (first | exact bl_refl | assumption | (apply bl_then; assumption) | refine bl_alloc ?_ _ | refine bl_drew ?_ | refine bl_drewN ?_ _))⟩
                · simp only [if_true] at hc
                  refine wp_region_ords [0, 1, 2, 3, 4, 5, 6, 7, 8, 9, 10, 11] [(12, false), (13, false), (14, true), (15, true), (16, false)] [17] (by kernel_rfl) (by kernel_rfl) (fun d _ _ _ _ h => by cases d <;> exact h) ?_
                  simp only [List.map_cons, List.map_nil, List.getD_cons_zero, List.getD_cons_succ]
                  repeat (go_big_quiet_step (fail))
                  refine wpQuiet_nil ?_
                  refine wpMid_run rfl (fun K hK => ?_)
                  go_simp
                  refine (hc _ (hf.below (by (repeat (first | exact bl_refl | assumption | (apply bl_then; assumption) | refine bl_alloc ?_ _ | refine bl_drew ?_ | refine bl_drewN ?_ _))))).mono ?_
                  rintro e w4 ⟨v4, rfl, hO4, hb4⟩
                  refine hK _ _ (by (repeat (first | exact bl_refl | assumption | (apply bl_then; assumption) | refine bl_alloc ?_ _ | refine bl_drew ?_ | refine bl_drewN ?_ _))) ?_
                  clear hK K
                  obtain ⟨A4, c4, rfl⟩ := hO4.shape
                  refine wpMid_run rfl (fun K hK => ?_)
                  go_simp
                  refine hK _ _ (by (repeat (first | exact bl_refl | assumption | (apply bl_then; assumption) | refine bl_alloc ?_ _ | refine bl_drew ?_ | refine bl_drewN ?_ _))) ?_
                  clear hK K
                  refine wpMid_take rfl ?_
                  intro K hK
                  go_big_quiet_op
                  go_big_quiet_on
                  refine wpMid_take rfl ?_
                  intro K hK
                  go_big_quiet_op
                  go_big_quiet_on
                  refine wpMid_run rfl (fun K hK => ?_)
                  go_simp
                  refine hK _ _ (by (repeat (first | exact bl_refl | assumption | (apply bl_then; assumption) | refine bl_alloc ?_ _ | refine bl_drew ?_ | refine bl_drewN ?_ _))) ?_
                  clear hK K
                  refine wpMid_nil ?_
                  have hN4 := hO4.rd bc_len
                  have hb4 := bl_d hb4
                  have hO5 := hO.below hb4
                  have hbr4 : Below w2.heap.size w2 w4 := by (repeat (first | exact bl_refl | assumption | (apply bl_then; assumption) | refine bl_alloc ?_ _ | refine bl_drew ?_ | refine bl_drewN ?_ _))
                  have hX4 := hf.below hb4
                  have HA5 : Hid (allN l (4 * 0 + (n + 1)) = true) := by unfold Hid; rw [← Nat.add_assoc, hsucc.out]; rfl
                  obtain ⟨S, hS⟩ : ∃ S, bst l (4 * 0 + n) = S := ⟨_, rfl⟩
                  have hSl0 : Hid (4 * 0 + n ≠ 0 → 0 < S.length) := fun hn0 => by
                    rw [← hS]
                    have := bst_ne HNE.out (4 * 0 + n) (by omega)
                    cases hb : bst l (4 * 0 + n) with
                    | nil => exact absurd hb this
                    | cons a r => simp
                  obtain ⟨N, hN⟩ : ∃ N, nrm X = N := ⟨_, rfl⟩
                  rw [hN] at hN4 hO4 hbs ⊢
                  rw [hS] at hO5 hbs
                  clear hN hS hnx
                  have hO4' := hO4
                  have hbw : Below w.heap.size w wq := bl_then hbr hbw2
                  clear hO hbr hf hO4 hb4 hc HA hsucc
                  obtain ⟨w9, rfl⟩ : ∃ x, x = w4 := ⟨_, rfl⟩
                  go_upto_region 13 with fail
                  go_cut [55] from 28 to 59 (fun s wx => s = .bool (decide (4 * 0 + n = 0 ∨ cmpL N S < 0)) ∧ Below w9.heap.size w9 wx)
                  case first =>
                    by_cases hn0 : 4 * 0 + n = 0
                    · obtain rfl := hnil hn0
                      have hq : ∀ W, (binOp .eql 26 (.slice none 0 0) (.slice none 0 0)).run Tryz.prog W = .ok (.bool true) W := fun W => Lib.run_eql_slice_nil (P := Tryz.prog) W 26 60 none 0 0 0 0 Tryz.underlying26
                      go_wp2
                      go_meet
                      exact ⟨by rw [decide_eq_true (.inl hn0)], Below.refl _ _⟩
                    · have HN9 := Lib.hid hn0
                      have hSl := hSl0.out hn0
                      clear hn0 hnil
                      have hS5 : SlB w9 _ S := hO5.rd bc_len
                      obtain ⟨A5, c5, rfl, _, _, hr5⟩ := id hS5
                      obtain ⟨b5, off5, rfl, _, _, _, _⟩ := hr5.bar hSl
                      have hq : ∀ W, (binOp .eql 26 (.slice (some ⟨b5, off5, none⟩) S.length c5) (.slice none 0 0)).run Tryz.prog W = .ok (.bool false) W := fun W => Lib.run_eql_slice_nil (P := Tryz.prog) W 26 60 (some ⟨b5, off5, none⟩) S.length c5 0 0 Tryz.underlying26
                      clear hr5
                      go_wp2_with fail
                      go_at_call 97
                      refine (compareF_any _ _ _ (hN4.below (by (repeat (first | exact bl_refl | assumption | (apply bl_then; assumption) | refine bl_alloc ?_ _ | refine bl_drew ?_ | refine bl_drewN ?_ _)))) (hS5.below (by (repeat (first | exact bl_refl | assumption | (apply bl_then; assumption) | refine bl_alloc ?_ _ | refine bl_drew ?_ | refine bl_drewN ?_ _))))).mono ?_
                      rintro e wz ⟨rfl, hbz⟩
                      go_wp2
                      go_meet
                      exact ⟨by congr 2; have := HN9.out; simp only [eq_iff_iff]; omega, by (repeat (first | exact bl_refl | assumption | (apply bl_then; assumption) | refine bl_alloc ?_ _ | refine bl_drew ?_ | refine bl_drewN ?_ _))⟩
                  case rest =>
                    rename_i s55 wc hcut
                    obtain ⟨rfl, hbc⟩ := hcut
                    by_cases hP : 4 * 0 + n = 0 ∨ cmpL N S < 0
                    · have HP := Lib.hid hP
                      rw [decide_eq_true hP]
                      clear hP hnil
                      go_upto_region 15 with fail
                      go_wp2_with (go_at_call 94; refine (moved_any turnK _ (.inr rfl) turnG turn_near X _ (hX4.below (by (repeat (first | exact bl_refl | assumption | (apply bl_then; assumption) | refine bl_alloc ?_ _ | refine bl_drew ?_ | refine bl_drewN ?_ _)))) (fun b hb => (hXe.out b hb).ok) (by rw [hXl2.out]; omega)).mono ?_; rintro e wy ⟨v6, rfl, hO6, hb6⟩; obtain ⟨A6, c6, rfl⟩ := hO6.shape)
                      go_roundw
                      case rel =>
                        refine ⟨n + 1, by omega, by go_num, HA5, fun h => by omega, ?_, ?_, by (repeat (first | exact bl_refl | assumption | (apply bl_then; assumption) | refine bl_alloc ?_ _ | refine bl_drew ?_ | refine bl_drewN ?_ _))⟩
                        · rw [← Nat.add_assoc, hbs.out, if_pos HP.out]
                          exact (hO4'.base_mono hbw.size).below (by (repeat (first | exact bl_refl | assumption | (apply bl_then; assumption) | refine bl_alloc ?_ _ | refine bl_drew ?_ | refine bl_drewN ?_ _)))
                        · rw [HX1.out]
                          exact hO6.rd bc_len
                      case measure => simp only [intOf]; omega
                    · have HP := Lib.hid hP
                      rw [decide_eq_false hP]
                      clear hP hnil
                      go_upto_region 15 with fail
                      go_wp2_with (go_at_call 94; refine (moved_any turnK _ (.inr rfl) turnG turn_near X _ (hX4.below (by (repeat (first | exact bl_refl | assumption | (apply bl_then; assumption) | refine bl_alloc ?_ _ | refine bl_drew ?_ | refine bl_drewN ?_ _)))) (fun b hb => (hXe.out b hb).ok) (by rw [hXl2.out]; omega)).mono ?_; rintro e wy ⟨v6, rfl, hO6, hb6⟩; obtain ⟨A6, c6, rfl⟩ := hO6.shape)
                      go_roundw
                      case rel =>
                        refine ⟨n + 1, by omega, by go_num, HA5, fun h => by omega, ?_, ?_, by (repeat (first | exact bl_refl | assumption | (apply bl_then; assumption) | refine bl_alloc ?_ _ | refine bl_drew ?_ | refine bl_drewN ?_ _))⟩
                        · rw [← Nat.add_assoc, hbs.out, if_neg HP.out]
                          exact hO5.below (by (repeat (first | exact bl_refl | assumption | (apply bl_then; assumption) | refine bl_alloc ?_ _ | refine bl_drew ?_ | refine bl_drewN ?_ _)))
                        · rw [HX1.out]
                          exact hO6.rd bc_len
                      case measure => simp only [intOf]; omega
              · obtain rfl : n = 4 := by omega
                go_wp2
                go_roundw
                case rel => exact ⟨0 + 1, by omega, by go_num, HA, fun h => by omega, hO, hbr⟩
                case measure => simp [intOf]
          · clear hnil
            rw [show ((1 : Nat) : Int) = 1 from rfl]
            have hi0 := (hix wo).2
            have hFw := hM2.below hbr
            go_wp2
            go_loopw [5, 7, 27] (fun o f i wr => ∃ n : Nat, n ≤ 4 ∧ i = .int .i64 n ∧ Hid (allN l (4 * 1 + n) = true) ∧ (4 * 1 + n = 0 → o = .slice none 0 0) ∧ OwB w.heap.size wr o (bst l (4 * 1 + n)) ∧ SlB wr f (turnN n (mirN l)) ∧ Below w2.heap.size w2 wr) (fun _ _ i _ => 4 - (intOf i).toNat)
            case atStart => exact ⟨0, by omega, rfl, HA, fun h => by omega, hO, hFw, hbr⟩
            case round =>
              clear hi0 hFw HA hO hbr
              obtain ⟨n, hn, rfl, HA, hnil, hO, hf, hbr⟩ := hrel
              obtain ⟨wq, rfl⟩ : ∃ x, x = wr := ⟨_, rfl⟩
              by_cases hn4 : n < 4
              · have HX1 : Hid (turnN (n + 1) (mirN l) = srtB ((turnN n (mirN l)).map (mvB turnK))) := rfl
                have hfr : frm l (4 * 1 + n) = turnN n (mirN l) := by unfold frm; rw [if_neg (by omega)]; congr 1; omega
                have hXl := turnN_len (mirN l) n
                have hXe := Lib.hid (turnN_ends (l := mirN l) (mirN_ends hends.out) n)
                obtain ⟨X, hX⟩ : ∃ X, turnN n (mirN l) = X := ⟨_, rfl⟩
                rw [hX] at hf HX1 hfr hXl hXe
                have hXl2 : Hid (X.length = l.length) := by unfold Hid; rw [hXl, hml]
                clear hX hXl
                obtain ⟨A3, c3, rfl, hlc3, hcm3, hr3⟩ := id hf
                have hX0 : 0 < X.length := by rw [hXl2.out]; exact hlp
                obtain ⟨b, off, rfl, hb, e0, e1, e2⟩ := hr3.bar hX0
                have hhd := hdK_get hX0
                have hbo := hXe.out _ (List.getElem_mem hX0)
                obtain ⟨⟨x0, y0, s0⟩, hx⟩ : ∃ z, X[0] = z := ⟨_, rfl⟩
                rw [hx] at e0 e1 e2 hhd hbo
                simp only [Nat.zero_mul, Nat.add_zero] at e0 e1 e2 hhd
                obtain ⟨bx, bY, _, _, _⟩ := hbo
                simp only at bx bY
                clear hx
                have m1 : IntKind.i64.wrap (-x0) = -x0 := by rw [IntWalk.i64_in _ (by omega)]
                have m2 : IntKind.i64.wrap (-y0) = -y0 := by rw [IntWalk.i64_in _ (by omega)]
                have hnx : Hid (nrm X = X.map (shB (-x0, -y0))) := by unfold Hid nrm; rw [hhd]
                have hsucc : Hid (allN l (4 * 1 + n + 1) = (allN l (4 * 1 + n) && allIn (nrm X))) := by unfold Hid; rw [allN, hfr]
                have hbs : Hid (bst l (4 * 1 + n + 1) = if 4 * 1 + n = 0 ∨ cmpL (nrm X) (bst l (4 * 1 + n)) < 0 then nrm X else bst l (4 * 1 + n)) := by unfold Hid; rw [bst, hfr]
                clear hhd hfr
                obtain ⟨q, hq⟩ : ∃ q, allIn (nrm X) = q := ⟨_, rfl⟩
                rw [hq, HA.out] at hsucc
                have hc : ∀ W, SlB W (.slice (some ⟨b, off, none⟩) X.length c3) X → Calls Tryz.prog 96 #[.slice (some ⟨b, off, none⟩) X.length c3, .agg #[.int .i64 (-x0), .int .i64 (-y0)]] W (RBE W (if q then nrm X else []) (if q then 0 else 3)) := fun W hW => by
                  have := nshifted_any X (-x0) (-y0) W hW (fun b hb => (hXe.out b hb).ok) (by rw [hXl2.out]; omega) (by omega) (by omega)
                  unfold shL shE at this
                  rw [← hnx.out, hq] at this
                  exact this
                clear hq
                go_upto_region 10 with fail
                cases q
                · have HS : Hid (canL l = [] ∧ canE l = 3) := by
                    have hA8 : allN l 8 = false := by
                      cases h8 : allN l 8 with
                      | false => rfl
                      | true =>
                        have := allN_mono (n := 4 * 1 + n + 1) (by omega) h8
                        rw [hsucc.out] at this
                        cases this
                    unfold Hid canL canE
                    simp [HN0.out, HNE.out, hA8]
                  simp only [Bool.false_eq_true, if_false] at hc
                  refine wp_region_ords [0, 1, 2, 3, 4, 5, 6, 7, 8, 9, 10, 11] [(12, false), (13, false), (14, true), (15, true), (16, false)] [17] (by kernel_rfl) (by kernel_rfl) (fun d _ _ _ _ h => by cases d <;> exact h) ?_
                  simp only [List.map_cons, List.map_nil, List.getD_cons_zero, List.getD_cons_succ]
                  repeat (go_big_quiet_step (fail))
                  refine wpQuiet_nil ?_
                  refine wpMid_run rfl (fun K hK => ?_)
                  go_simp
                  refine (hc _ (hf.below (by (repeat (first | exact bl_refl | assumption | (apply bl_then; assumption) | refine bl_alloc ?_ _ | refine bl_drew ?_ | refine bl_drewN ?_ _))))).mono ?_
                  rintro e w4 ⟨v4, rfl, hO4, hb4⟩
                  refine hK _ _ (by (repeat (first | exact bl_refl | assumption | (apply bl_then; assumption) | refine bl_alloc ?_ _ | refine bl_drew ?_ | refine bl_drewN ?_ _))) ?_
                  clear hK K
                  obtain ⟨A4, c4, rfl⟩ := hO4.shape
                  refine wpMid_run rfl (fun K hK => ?_)
                  go_simp
                  refine hK _ _ (by (repeat (first | exact bl_refl | assumption | (apply bl_then; assumption) | refine bl_alloc ?_ _ | refine bl_drew ?_ | refine bl_drewN ?_ _))) ?_
                  clear hK K
                  refine wpMid_take rfl ?_
                  intro K hK
                  go_big_quiet_op
                  go_big_quiet_on
                  refine wpMid_take rfl ?_
                  intro K hK
                  go_big_quiet_op
                  go_big_quiet_on
                  refine wpMid_run rfl (fun K hK => ?_)
                  go_simp
                  refine hK _ _ (by (repeat (first | exact bl_refl | assumption | (apply bl_then; assumption) | refine bl_alloc ?_ _ | refine bl_drew ?_ | refine bl_drewN ?_ _))) ?_
                  clear hK K
                  refine wpMid_nil ?_
                  go_wp2
                  go_ret2
                  exact ⟨_, by rw [HS.out.2]; rfl, by rw [HS.out.1]; exact Own.nil_, by (repeat (first | exact bl_refl | assumption | (apply bl_then; assumption) | refine bl_alloc ?_ _ | refine bl_drew ?_ | refine bl_drewN ?_ _))⟩
                · simp only [if_true] at hc
                  refine wp_region_ords [0, 1, 2, 3, 4, 5, 6, 7, 8, 9, 10, 11] [(12, false), (13, false), (14, true), (15, true), (16, false)] [17] (by kernel_rfl) (by kernel_rfl) (fun d _ _ _ _ h => by cases d <;> exact h) ?_
                  simp only [List.map_cons, List.map_nil, List.getD_cons_zero, List.getD_cons_succ]
                  repeat (go_big_quiet_step (fail))
                  refine wpQuiet_nil ?_
                  refine wpMid_run rfl (fun K hK => ?_)
                  go_simp
                  refine (hc _ (hf.below (by (repeat (first | exact bl_refl | assumption | (apply bl_then; assumption) | refine bl_alloc ?_ _ | refine bl_drew ?_ | refine bl_drewN ?_ _))))).mono ?_
                  rintro e w4 ⟨v4, rfl, hO4, hb4⟩
                  refine hK _ _ (by (repeat (first | exact bl_refl | assumption | (apply bl_then; assumption) | refine bl_alloc ?_ _ | refine bl_drew ?_ | refine bl_drewN ?_ _))) ?_
                  clear hK K
                  obtain ⟨A4, c4, rfl⟩ := hO4.shape
                  refine wpMid_run rfl (fun K hK => ?_)
                  go_simp
                  refine hK _ _ (by (repeat (first | exact bl_refl | assumption | (apply bl_then; assumption) | refine bl_alloc ?_ _ | refine bl_drew ?_ | refine bl_drewN ?_ _))) ?_
                  clear hK K
                  refine wpMid_take rfl ?_
                  intro K hK
                  go_big_quiet_op
                  go_big_quiet_on
                  refine wpMid_take rfl ?_
                  intro K hK
                  go_big_quiet_op
                  go_big_quiet_on
                  refine wpMid_run rfl (fun K hK => ?_)
                  go_simp
                  refine hK _ _ (by (repeat (first | exact bl_refl | assumption | (apply bl_then; assumption) | refine bl_alloc ?_ _ | refine bl_drew ?_ | refine bl_drewN ?_ _))) ?_
                  clear hK K
                  refine wpMid_nil ?_
                  have hN4 := hO4.rd bc_len
                  have hb4 := bl_d hb4
                  have hO5 := hO.below hb4
                  have hbr4 : Below w2.heap.size w2 w4 := by (repeat (first | exact bl_refl | assumption | (apply bl_then; assumption) | refine bl_alloc ?_ _ | refine bl_drew ?_ | refine bl_drewN ?_ _))
                  have hX4 := hf.below hb4
                  have HA5 : Hid (allN l (4 * 1 + (n + 1)) = true) := by unfold Hid; rw [← Nat.add_assoc, hsucc.out]; rfl
                  obtain ⟨S, hS⟩ : ∃ S, bst l (4 * 1 + n) = S := ⟨_, rfl⟩
                  have hSl0 : Hid (4 * 1 + n ≠ 0 → 0 < S.length) := fun hn0 => by
                    rw [← hS]
                    have := bst_ne HNE.out (4 * 1 + n) (by omega)
                    cases hb : bst l (4 * 1 + n) with
                    | nil => exact absurd hb this
                    | cons a r => simp
                  obtain ⟨N, hN⟩ : ∃ N, nrm X = N := ⟨_, rfl⟩
                  rw [hN] at hN4 hO4 hbs ⊢
                  rw [hS] at hO5 hbs
                  clear hN hS hnx
                  have hO4' := hO4
                  have hbw : Below w.heap.size w wq := bl_then hbr hbw2
                  clear hO hbr hf hO4 hb4 hc HA hsucc
                  obtain ⟨w9, rfl⟩ : ∃ x, x = w4 := ⟨_, rfl⟩
                  go_upto_region 13 with fail
                  go_cut [55] from 28 to 59 (fun s wx => s = .bool (decide (4 * 1 + n = 0 ∨ cmpL N S < 0)) ∧ Below w9.heap.size w9 wx)
                  case first =>
                    by_cases hn0 : 4 * 1 + n = 0
                    · obtain rfl := hnil hn0
                      have hq : ∀ W, (binOp .eql 26 (.slice none 0 0) (.slice none 0 0)).run Tryz.prog W = .ok (.bool true) W := fun W => Lib.run_eql_slice_nil (P := Tryz.prog) W 26 60 none 0 0 0 0 Tryz.underlying26
                      go_wp2
                      go_meet
                      exact ⟨by rw [decide_eq_true (.inl hn0)], Below.refl _ _⟩
                    · have HN9 := Lib.hid hn0
                      have hSl := hSl0.out hn0
                      clear hn0 hnil
                      have hS5 : SlB w9 _ S := hO5.rd bc_len
                      obtain ⟨A5, c5, rfl, _, _, hr5⟩ := id hS5
                      obtain ⟨b5, off5, rfl, _, _, _, _⟩ := hr5.bar hSl
                      have hq : ∀ W, (binOp .eql 26 (.slice (some ⟨b5, off5, none⟩) S.length c5) (.slice none 0 0)).run Tryz.prog W = .ok (.bool false) W := fun W => Lib.run_eql_slice_nil (P := Tryz.prog) W 26 60 (some ⟨b5, off5, none⟩) S.length c5 0 0 Tryz.underlying26
                      clear hr5
                      go_wp2_with fail
                      go_at_call 97
                      refine (compareF_any _ _ _ (hN4.below (by (repeat (first | exact bl_refl | assumption | (apply bl_then; assumption) | refine bl_alloc ?_ _ | refine bl_drew ?_ | refine bl_drewN ?_ _)))) (hS5.below (by (repeat (first | exact bl_refl | assumption | (apply bl_then; assumption) | refine bl_alloc ?_ _ | refine bl_drew ?_ | refine bl_drewN ?_ _))))).mono ?_
                      rintro e wz ⟨rfl, hbz⟩
                      go_wp2
                      go_meet
                      exact ⟨by congr 2; have := HN9.out; simp only [eq_iff_iff]; omega, by (repeat (first | exact bl_refl | assumption | (apply bl_then; assumption) | refine bl_alloc ?_ _ | refine bl_drew ?_ | refine bl_drewN ?_ _))⟩
                  case rest =>
                    rename_i s55 wc hcut
                    obtain ⟨rfl, hbc⟩ := hcut
                    by_cases hP : 4 * 1 + n = 0 ∨ cmpL N S < 0
                    · have HP := Lib.hid hP
                      rw [decide_eq_true hP]
                      clear hP hnil
                      go_upto_region 15 with fail
                      go_wp2_with (go_at_call 94; refine (moved_any turnK _ (.inr rfl) turnG turn_near X _ (hX4.below (by (repeat (first | exact bl_refl | assumption | (apply bl_then; assumption) | refine bl_alloc ?_ _ | refine bl_drew ?_ | refine bl_drewN ?_ _)))) (fun b hb => (hXe.out b hb).ok) (by rw [hXl2.out]; omega)).mono ?_; rintro e wy ⟨v6, rfl, hO6, hb6⟩; obtain ⟨A6, c6, rfl⟩ := hO6.shape)
                      go_roundw
                      case rel =>
                        refine ⟨n + 1, by omega, by go_num, HA5, fun h => by omega, ?_, ?_, by (repeat (first | exact bl_refl | assumption | (apply bl_then; assumption) | refine bl_alloc ?_ _ | refine bl_drew ?_ | refine bl_drewN ?_ _))⟩
                        · rw [← Nat.add_assoc, hbs.out, if_pos HP.out]
                          exact (hO4'.base_mono hbw.size).below (by (repeat (first | exact bl_refl | assumption | (apply bl_then; assumption) | refine bl_alloc ?_ _ | refine bl_drew ?_ | refine bl_drewN ?_ _)))
                        · rw [HX1.out]
                          exact hO6.rd bc_len
                      case measure => simp only [intOf]; omega
                    · have HP := Lib.hid hP
                      rw [decide_eq_false hP]
                      clear hP hnil
                      go_upto_region 15 with fail
                      go_wp2_with (go_at_call 94; refine (moved_any turnK _ (.inr rfl) turnG turn_near X _ (hX4.below (by (repeat (first | exact bl_refl | assumption | (apply bl_then; assumption) | refine bl_alloc ?_ _ | refine bl_drew ?_ | refine bl_drewN ?_ _)))) (fun b hb => (hXe.out b hb).ok) (by rw [hXl2.out]; omega)).mono ?_; rintro e wy ⟨v6, rfl, hO6, hb6⟩; obtain ⟨A6, c6, rfl⟩ := hO6.shape)
                      go_roundw
                      case rel =>
                        refine ⟨n + 1, by omega, by go_num, HA5, fun h => by omega, ?_, ?_, by (repeat (first | exact bl_refl | assumption | (apply bl_then; assumption) | refine bl_alloc ?_ _ | refine bl_drew ?_ | refine bl_drewN ?_ _))⟩
                        · rw [← Nat.add_assoc, hbs.out, if_neg HP.out]
                          exact hO5.below (by (repeat (first | exact bl_refl | assumption | (apply bl_then; assumption) | refine bl_alloc ?_ _ | refine bl_drew ?_ | refine bl_drewN ?_ _)))
                        · rw [HX1.out]
                          exact hO6.rd bc_len
                      case measure => simp only [intOf]; omega
              · obtain rfl : n = 4 := by omega
                go_wp2
                go_roundw
                case rel => exact ⟨1 + 1, by omega, by go_num, HA, fun h => by omega, hO, hbr⟩
                case measure => simp [intOf]
        · obtain rfl : k1 = 2 := by omega
          have HS : Hid (canL l = bst l 8 ∧ canE l = 0) := by
            have hA8 : allN l 8 = true := HA.out
            unfold Hid canL canE
            simp [HN0.out, HNE.out, hA8]
          go_wp2
          go_ret2
          exact ⟨_, by rw [HS.out.2]; rfl, by rw [HS.out.1]; exact hO, bl_then hbr hbw2⟩
  · have HS : Hid (canL l = [] ∧ canE l = netE l) := by unfold Hid canL canE; rw [if_pos (.inl hE), if_pos hE]; exact ⟨rfl, rfl⟩
    have hE' : (netE l != 0) = true := by simpa using hE
    clear hE
    go_enter Tryz.func29, Tryz.ntmps29
    go_wp2_with (go_at_call 64; refine (nnet_sl l _ h).mono ?_; rintro e w1 ⟨rfl, hb1⟩; (first | replace h := h.st0 hb1 | replace h := h.st1 hb1 | replace h := h.std hb1 | replace h := h.std1 hb1 | replace h := h.st2 hb1 | replace h := h.std2 hb1 | replace h := h.st3 hb1))
    go_ret2
    exact ⟨_, by rw [HS.out.2]; rfl, by rw [HS.out.1]; exact Own.nil_, by (repeat (first | exact bl_refl | assumption | (apply bl_then; assumption) | refine bl_alloc ?_ _ | refine bl_drew ?_ | refine bl_drewN ?_ _))⟩
end Go.Proofs.YtkmjcoofkgpanaaGreatDoor

/- The parts of a net, plain, and rows of rows. Conditions: none. -/
namespace Go.Proofs.YtkmjcoofkgpanaaGreatDoor
open Go.RowKit Go.ChangeMaps
set_option maxHeartbeats 4000000
set_option maxRecDepth 100000

theorem apiMeshes_any {v : Value} (l : List Bar) (w : World) (h : SlB w v l) : Calls Tryz.prog 41 #[v] w (fun e w' => ∃ u, e = .returned (.tuple #[u, .int .i64 (netE l)]) ∧ OwMN w.heap.size w' u (onlyOk (netE l) (meshL l l)) ∧ Below w.heap.size w w') := by
  by_cases hE : netE l = 0
  · have hok := netE_ok hE
    have hE' : (netE l != 0) = false := by simp [hE]
    have HS : Hid (onlyOk (netE l) (meshL l l) = meshL l l ∧ netE l = 0) := by unfold Hid onlyOk; rw [if_pos hE]; exact ⟨rfl, hE⟩
    clear hE
    go_enter Tryz.func41, Tryz.ntmps41
    go_wp2_with (first | (go_at_call 64; refine (nnet_sl l _ h).mono ?_; rintro e w1 ⟨rfl, hb1⟩; (first | replace h := h.st0 hb1 | replace h := h.st1 hb1 | replace h := h.std hb1 | replace h := h.std1 hb1 | replace h := h.st2 hb1 | replace h := h.std2 hb1 | replace h := h.st3 hb1)) | (go_at_call 92; refine (nmeshes_any l _ h hok).mono ?_; rintro e w2 ⟨v2, rfl, hown2, hb2⟩))
    go_ret2
    exact ⟨_, by rw [HS.out.2]; rfl, by rw [HS.out.1]; exact hown2.base_mono hb1.size, by (repeat (first | exact bl_refl | assumption | (apply bl_then; assumption) | refine bl_alloc ?_ _ | refine bl_drew ?_ | refine bl_drewN ?_ _))⟩
  · have hE' : (netE l != 0) = true := by simpa using hE
    have HS : Hid (onlyOk (netE l) (meshL l l) = []) := by unfold Hid onlyOk; rw [if_neg hE]
    clear hE
    go_enter Tryz.func41, Tryz.ntmps41
    go_wp2_with (go_at_call 64; refine (nnet_sl l _ h).mono ?_; rintro e w1 ⟨rfl, hb1⟩; (first | replace h := h.st0 hb1 | replace h := h.st1 hb1 | replace h := h.std hb1 | replace h := h.std1 hb1 | replace h := h.st2 hb1 | replace h := h.std2 hb1 | replace h := h.st3 hb1))
    go_ret2
    exact ⟨_, rfl, by rw [HS.out]; exact Own.nil_, by (repeat (first | exact bl_refl | assumption | (apply bl_then; assumption) | refine bl_alloc ?_ _ | refine bl_drew ?_ | refine bl_drewN ?_ _))⟩
/-- a bar tried: it joins the part if it is a bar of the net that was not seen -/
def tryP (l S P : List Bar) (b : Bar) : List Bar := if (b ∈ S ∨ b ∈ P) ∨ b ∉ l then P else P ++ [b]
def arP (l S : List Bar) (k : Knot) (P : List Bar) : Nat → List Bar
  | 0 => P
  | j + 1 => tryP l S (arP l S k P j) (arB k j)
def enP (l S : List Bar) (b : Bar) (P : List Bar) : Nat → List Bar
  | 0 => P
  | n + 1 => arP l S (endK b n) (enP l S b P n) 4
def colP (l S : List Bar) : Nat → Nat → List Bar → List Bar
  | 0, _, P => P
  | f + 1, i, P => if h : i < P.length then colP l S f (i + 1) (enP l S P[i] P 2) else P
/-- the parts that the first k bars of a net begin -/
def prtO (l : List Bar) : Nat → List (List Bar)
  | 0 => []
  | k + 1 => match l[k]? with
    | none => prtO l k
    | some b => if b ∈ (prtO l k).flatten then prtO l k else prtO l k ++ [srtB (colP l (prtO l k).flatten (l.length + 1) 0 [b])]
def partsL (l : List Bar) : List (List Bar) := prtO l l.length
structure PartOk (l S P : List Bar) : Prop where
  nodup : P.Nodup
  sub : ∀ b ∈ P, b ∈ l
  apart : ∀ b ∈ P, b ∉ S
theorem PartOk.try_ {l S P : List Bar} (h : PartOk l S P) (b : Bar) : PartOk l S (tryP l S P b) := by
  unfold tryP
  split
  · exact h
  · rename_i hn
    simp only [not_or, Decidable.not_not] at hn
    obtain ⟨⟨h1, h2⟩, h3⟩ := hn
    refine ⟨?_, fun c hc => ?_, fun c hc => ?_⟩
    · rw [List.nodup_append]
      exact ⟨h.nodup, by simp, fun a ha c hc e => by
        obtain rfl : c = b := by simpa using hc
        exact h2 (e ▸ ha)⟩
    · rcases List.mem_append.1 hc with hc | hc
      · exact h.sub c hc
      · obtain rfl : c = b := by simpa using hc
        exact h3
    · rcases List.mem_append.1 hc with hc | hc
      · exact h.apart c hc
      · obtain rfl : c = b := by simpa using hc
        exact h1
theorem tryP_len (l S P : List Bar) (b : Bar) : P.length ≤ (tryP l S P b).length := by
  unfold tryP; split <;> simp
theorem PartOk.ar {l S P : List Bar} (h : PartOk l S P) (k : Knot) : ∀ j, PartOk l S (arP l S k P j)
  | 0 => h
  | j + 1 => (PartOk.ar h k j).try_ _
theorem arP_len (l S : List Bar) (k : Knot) (P : List Bar) : ∀ j, P.length ≤ (arP l S k P j).length
  | 0 => Nat.le_refl _
  | j + 1 => Nat.le_trans (arP_len l S k P j) (tryP_len _ _ _ _)
theorem PartOk.en {l S P : List Bar} (h : PartOk l S P) (b : Bar) : ∀ n, PartOk l S (enP l S b P n)
  | 0 => h
  | n + 1 => (PartOk.en h b n).ar _ 4
theorem enP_len (l S : List Bar) (b : Bar) (P : List Bar) : ∀ n, P.length ≤ (enP l S b P n).length
  | 0 => Nat.le_refl _
  | n + 1 => Nat.le_trans (enP_len l S b P n) (arP_len _ _ _ _ 4)
theorem len_sub {α : Type} [DecidableEq α] : ∀ {l D : List α}, l.Nodup → (∀ x ∈ l, x ∈ D) → l.length ≤ D.length
  | [], _, _, _ => by simp
  | a :: l, D, hn, hs => by
    rw [List.nodup_cons] at hn
    have ha := hs a (by simp)
    have := len_sub (D := D.erase a) hn.2 fun x hx => (List.mem_erase_of_ne (fun e : x = a => hn.1 (e ▸ hx))).2 (hs x (by simp [hx]))
    rw [List.length_erase_of_mem ha] at this
    have h0 := List.length_pos_of_mem ha
    simp only [List.length_cons]
    omega
theorem PartOk.len {l S P : List Bar} (h : PartOk l S P) : P.length ≤ l.length := len_sub h.nodup h.sub
theorem PartOk.col {l S : List Bar} : ∀ (f i : Nat) {P : List Bar}, PartOk l S P → PartOk l S (colP l S f i P)
  | 0, _, _, h => h
  | f + 1, i, P, h => by
    unfold colP
    split
    · exact PartOk.col f (i + 1) (h.en _ 2)
    · exact h
theorem colP_go {l S P : List Bar} {f i : Nat} (h : i < P.length) : colP l S (f + 1) i P = colP l S f (i + 1) (enP l S P[i] P 2) := by
  rw [colP, dif_pos h]
theorem colP_end {l S P : List Bar} {f i : Nat} (h : ¬ i < P.length) : colP l S f i P = P := by
  cases f with
  | zero => rfl
  | succ f => rw [colP, dif_neg h]
theorem prtO_succ {l : List Bar} {k : Nat} (hk : k < l.length) : prtO l (k + 1) = if l[k] ∈ (prtO l k).flatten then prtO l k else prtO l k ++ [srtB (colP l (prtO l k).flatten (l.length + 1) 0 [l[k]])] := by
  rw [prtO, List.getElem?_eq_getElem hk]
theorem PartOk.start {l S : List Bar} {b : Bar} (hb : b ∈ l) (hS : b ∉ S) : PartOk l S [b] :=
  ⟨by simp, fun c hc => by obtain rfl : c = b := by simpa using hc
                           exact hb, fun c hc => by obtain rfl : c = b := by simpa using hc
                                                    exact hS⟩
theorem prtO_len (l : List Bar) : ∀ k, (prtO l k).length ≤ k
  | 0 => Nat.le_refl _
  | k + 1 => by
    have := prtO_len l k
    rw [prtO]
    split
    · omega
    · split
      · omega
      · simp; omega
/-- what the map of the bars seen holds -/
def seenO (S : List Bar) (b : Bar) : Option Bool := if b ∈ S then some true else none
theorem seen_put {m : List (Bar × Bool × Nat)} {S : List Bar} {a : Bar} {c : Nat} (h : ∀ b, mget b m = seenO S b) (b : Bar) : mget b (mput a true c m) = seenO (S ++ [a]) b := by
  rw [mget_put, h b]
  unfold seenO
  by_cases hb : b = a
  · simp [hb]
  · simp [hb]
theorem seen_look {m : List (Bar × Bool × Nat)} {S : List Bar} (h : ∀ b, mget b m = seenO S b) (b : Bar) : (match mget b m with | some v => Value.bool v | none => Value.bool false) = Value.bool (decide (b ∈ S)) := by
  rw [h b]
  unfold seenO
  by_cases hb : b ∈ S <;> simp [hb]
theorem seen_congr {m : List (Bar × Bool × Nat)} {S S' : List Bar} (h : ∀ b, mget b m = seenO S b) (hs : ∀ b, b ∈ S ↔ b ∈ S') (b : Bar) : mget b m = seenO S' b := by
  rw [h b]; unfold seenO; simp only [hs b]
/-! ## rows of rows -/
abbrev SlV := Option Addr × Nat × Nat
def slV (t : SlV) : Value := .slice t.1 t.2.1 t.2.2
def rc (t : SlV) : List Value := [slV t]
theorem rc_len (t : SlV) : (rc t).length = 1 := rfl
theorem rc_one (t : SlV) : ∀ u ∈ rc t, u.oneCell' = true := by intro u hu; simp [rc] at hu; subst hu; rfl
theorem rows_elem : Elem Tryz.prog 34 26 1 24 := ⟨by kernel_rfl, by kernel_rfl, by decide⟩
abbrev OwV (base : Nat) := Own rc 1 base 26
/-- the rows of a row of rows, each a row of the call's own -/
def RowsAt (base : Nat) (w : World) : List SlV → List (List Bar) → Prop
  | [], [] => True
  | t :: ts, L :: Ls => OwB base w (slV t) L ∧ RowsAt base w ts Ls
  | _, _ => False
theorem RowsAt.len {base : Nat} {w : World} : ∀ {ts : List SlV} {Ls : List (List Bar)}, RowsAt base w ts Ls → ts.length = Ls.length
  | [], [], _ => rfl
  | _ :: _, _ :: _, h => by simp [RowsAt.len h.2]
  | [], _ :: _, h => h.elim
  | _ :: _, [], h => h.elim
theorem RowsAt.map_ {base base' : Nat} {w w' : World} (hm : ∀ v L, OwB base w v L → OwB base' w' v L) : ∀ {ts : List SlV} {Ls : List (List Bar)}, RowsAt base w ts Ls → RowsAt base' w' ts Ls
  | [], [], _ => trivial
  | _ :: _, _ :: _, h => ⟨hm _ _ h.1, h.2.map_ hm⟩
  | [], _ :: _, h => h.elim
  | _ :: _, [], h => h.elim
theorem RowsAt.snoc {base : Nat} {w : World} {t : SlV} {L : List Bar} (ht : OwB base w (slV t) L) : ∀ {ts : List SlV} {Ls : List (List Bar)}, RowsAt base w ts Ls → RowsAt base w (ts ++ [t]) (Ls ++ [L])
  | [], [], _ => ⟨ht, trivial⟩
  | _ :: _, _ :: _, h => ⟨h.1, h.2.snoc ht⟩
  | [], _ :: _, h => h.elim
  | _ :: _, [], h => h.elim
theorem RowsAt.get {base : Nat} {w : World} : ∀ {ts : List SlV} {Ls : List (List Bar)} {i : Nat}, RowsAt base w ts Ls → (hi : i < ts.length) → (hj : i < Ls.length) → OwB base w (slV ts[i]) Ls[i]
  | _ :: _, _ :: _, 0, h, _, _ => h.1
  | _ :: _, _ :: _, i + 1, h, hi, hj => by
    simp only [List.getElem_cons_succ]
    exact h.2.get _ _
  | [], _, _, _, hi, _ => by simp at hi
  | _ :: _, [], _, h, _, _ => h.elim
/-- the call returns a fresh row of fresh rows of bars -/
def OwRR (base : Nat) (w : World) (v : Value) (Ls : List (List Bar)) : Prop := ∃ ts, OwV base w v ts ∧ RowsAt base w ts Ls
def RRB (w : World) (Ls : List (List Bar)) (e : Ending) (w' : World) : Prop := ∃ v, e = .returned v ∧ OwRR w.heap.size w' v Ls ∧ Below w.heap.size w w'
theorem Sl.one_row (w : World) (t : SlV) (g : Nat) (hg : w.heap.size = g) : Sl rc 1 (w.alloc (.cells #[slV t] 26)) (.slice (some ⟨g, 0, none⟩) 1 1) [t] := by
  subst hg
  have hB := Blk.new w 26 #[slV t]
  refine ⟨_, 1, rfl, by simp, by simp [maxLen], fun i b hb => ?_⟩
  match i, hb with
  | 0, hb =>
    obtain rfl : t = b := by simpa using hb
    refine ⟨_, 0, rfl, hB.lt, fun j u hj => ?_⟩
    rw [hB.cell]
    simpa [rc] using hj
section
variable {ops : Array Oper} {rest : List Oper} {o : Oper} {a : Act} {Q : Exit → Act → World → Prop} {base : Nat} {W : World} {v : Value} {A : Option Addr} {n c : Nat}
theorem wpList_appR {l : List SlV} (hown : OwV base W v l) {g : Nat} (hgd : o.guard = none) (s x : Operand) (ho : o.op = .call { callee := .builtin .append, args := #[s, x], argTypes := #[34, 34] })
    (hs : a.eval s = v) (hx : a.eval x = .slice (some ⟨g, 0, none⟩) 1 1) (hg : W.heap.size = g) (hlen : l.length ≤ 1000000) (hbase : base ≤ W.heap.size)
    (h : ∀ v' w', OwV base w' v' (l ++ [(A, n, c)]) → (W.alloc (.cells #[.slice A n c] 26)).grownBy w' v.ownBlock → wpList Tryz.prog ops Q rest (a.put o.dst v') w') :
    wpList Tryz.prog ops Q (o :: rest) a (W.alloc (.cells #[.slice A n c] 26)) :=
  wpList_app hgd rows_elem rc_len rc_one s x ho base v _ l [(A, n, c)] hs hx (hown.alloc _) (Sl.one_row W (A, n, c) g hg) (by simp [maxLen]; omega) (by simp; omega) (by simp; omega) h
end
/-! ## what a call leaves -/
theorem chg_row {w W W' : World} {r : Nat} {v : Value} {α : Type} {enc : α → List Value} {sz : Nat} {e : TypeId} {l : List α} (h : Chg [r] w W) (hown : Own enc sz w.heap.size e W v l) (hg : W.grownBy W' v.ownBlock) : Chg [r] w W' := by
  exact ⟨hg.os.trans h.os, hg.tape.trans h.tape, hg.output.trans h.output, Nat.le_trans h.size hg.size, fun k hk hn => (hg.block k (by have := h.size; omega) (fun e => by have := (hown.lt k (by simp [← e])).1; omega)).trans (h.block k hk hn)⟩
end Go.Proofs.YtkmjcoofkgpanaaGreatDoor

/- Mirror, Turn and Shift of the program, walked. Conditions: the slices read as lists. -/
import Derived.Test.YtpompeancmonbaaGreatE08
import Derived.Test.YtpompeancmonbaaGreatE17
import Derived.Test.YtpompeancmonbaaGreatE23
import Derived.Test.YtpompeancmonbaaGreatE22
import Derived.Test.YtpompeancmonbaaGreatE24
import Derived.Test.YtpompeancmonbaaGreatE26
import Derived.Test.YtpompeancmonbaaGreatE14
import Derived.Test.YtpompeancmonbaaGreatE33
import Derived.Test.YtpompeancmonbaaGreatE34
import Derived.Lib.SliceRun
import Derived.Deep.CutRange
namespace Go.Proofs.YtpompeancmonbaaGreat
open Go.RowKit Go.ChangeMaps
set_option maxHeartbeats 4000000
set_option maxRecDepth 100000

/-- both ends of a bar are within their range, and its side is one of both -/
structure EndsIn (b : Bar) : Prop where
  x : -100000 ≤ b.1 ∧ b.1 ≤ 100000
  y : -100000 ≤ b.2.1 ∧ b.2.1 ≤ 100000
  x2 : -100000 ≤ b.1 + b.2.2 ∧ b.1 + b.2.2 ≤ 100000
  y2 : -100000 ≤ b.2.1 + 1 ∧ b.2.1 + 1 ≤ 100000
  s : b.2.2 = 1 ∨ b.2.2 = -1
theorem EndsIn.ok {b : Bar} (h : EndsIn b) : BarOk b := ⟨by have := h.x; omega, by have := h.y; omega, h.s⟩
theorem EndsIn.turn {b : Bar} (h : EndsIn b) : EndsIn (turnB b) := by
  obtain ⟨x, y, s⟩ := b
  obtain ⟨h1, h2, h3, h4, h5⟩ := h
  simp only at h1 h2 h3 h4 h5
  rcases h5 with rfl | rfl
  · have e : turnB (x, y, 1) = (-y, x, -1) := by
      unfold turnB btwB
      simp only
      rw [if_neg (by omega)]
      simp only [Prod.mk.injEq, true_and]
      omega
    rw [e]
    exact ⟨by simp only; omega, by simp only; omega, by simp only; omega, by simp only; omega, .inr rfl⟩
  · have e : turnB (x, y, -1) = (-(y + 1), x - 1, 1) := by
      unfold turnB btwB
      simp only
      rw [if_pos (by omega)]
      have e1 : x + -1 = x - 1 := by omega
      have e2 : -y - -(y + 1) = 1 := by omega
      rw [e1, e2]
    rw [e]
    exact ⟨by simp only; omega, by simp only; omega, by simp only; omega, by simp only; omega, .inl rfl⟩
theorem EndsIn.mir {b : Bar} (h : EndsIn b) : EndsIn (mirB b) := by
  obtain ⟨x, y, s⟩ := b
  obtain ⟨h1, h2, h3, h4, h5⟩ := h
  unfold mirB
  simp only at h1 h2 h3 h4 h5 ⊢
  constructor <;> simp only <;> omega
theorem barE_endsN {x y s : Int} (h : barE x y s = 0) : EndsIn (x, y, s) := by
  unfold barE at h
  split at h
  · rename_i h1
    exact absurd h (by simpa using h1)
  · rename_i h1
    obtain ⟨a1, a2, a3, a4, _⟩ := knotE_zero (by simpa using h1)
    split at h
    · cases h
    · rename_i h2
      obtain ⟨b1, b2, b3, b4, _⟩ := knotE_zero h
      exact ⟨⟨a1, a2⟩, ⟨a3, a4⟩, ⟨b1, b2⟩, ⟨b3, b4⟩, by simp only; omega⟩
theorem netGo_ends : ∀ (l : List Bar) (p : Option Bar), netGo p l = 0 → ∀ b ∈ l, EndsIn b
  | [], _, _ => by simp
  | b :: r, p, h => by
    unfold netGo at h
    split at h
    · rename_i h1
      exact absurd h h1
    · rename_i h1
      split at h
      · cases h
      · intro c hc
        rcases List.mem_cons.1 hc with rfl | hc
        · exact barE_endsN (by simpa using h1)
        · exact netGo_ends r (some b) h c hc
theorem netE_ends {l : List Bar} (h : netE l = 0) : ∀ b ∈ l, EndsIn b := by
  unfold netE at h
  split at h
  · cases h
  · exact netGo_ends l none h
def turnK (k : Knot) : Knot := (-k.2, k.1)
theorem mvB_mir {b : Bar} : mvB mirK b = mirB b := by
  obtain ⟨x, y, s⟩ := b
  unfold mvB mirK mirB btwB lowK uppK
  simp only
  rw [if_neg (by omega)]
  simp only [Prod.mk.injEq, true_and]
  omega
theorem mvB_turn (b : Bar) : mvB turnK b = turnB b := rfl
def mirN (l : List Bar) : List Bar := srtB (l.map (mvB mirK))
def turnN : Nat → List Bar → List Bar
  | 0, l => l
  | n + 1, l => srtB ((turnN n l).map (mvB turnK))
theorem turnN_ends {l : List Bar} (h : ∀ b ∈ l, EndsIn b) : ∀ n, ∀ b ∈ turnN n l, EndsIn b
  | 0 => h
  | n + 1 => fun b hb => by
    unfold turnN at hb
    rw [srtB_mem, List.mem_map] at hb
    obtain ⟨c, hc, rfl⟩ := hb
    exact (turnN_ends h n c hc).turn
theorem turnN_len (l : List Bar) : ∀ n, (turnN n l).length = l.length
  | 0 => rfl
  | n + 1 => by
    unfold turnN
    rw [srtB_length, List.length_map, turnN_len l n]
theorem mir_near (k : Knot) (h : nearKN k) : nearKN (mirK k) := by unfold nearKN mirK at *; simp only; omega
theorem turn_near (k : Knot) (h : nearKN k) : nearKN (turnK k) := by unfold nearKN turnK at *; simp only; omega
theorem mirG (k : Knot) (W : World) (h : nearKN k) : Calls Tryz.prog 39 #[.agg #[.int .i64 k.1, .int .i64 k.2]] W (RV W (.agg #[.int .i64 (mirK k).1, .int .i64 (mirK k).2])) := mirrored_any k.1 k.2 h.1 W
theorem turnG (k : Knot) (W : World) (h : nearKN k) : Calls Tryz.prog 41 #[.agg #[.int .i64 k.1, .int .i64 k.2]] W (RV W (.agg #[.int .i64 (turnK k).1, .int .i64 (turnK k).2])) := turned_any k.1 k.2 h.2 W
theorem apiMirror_any {v : Value} (l : List Bar) (w : World) (h : SlB w v l) : Calls Tryz.prog 9 #[v] w (RBE w (onlyOk (netE l) (mirN l)) (netE l)) := by
  by_cases hE : netE l = 0
  · have hok := netE_ok hE
    have hE' : (netE l != 0) = false := by simp [hE]
    have HS : Hid (onlyOk (netE l) (mirN l) = mirN l ∧ netE l = 0) := by unfold Hid onlyOk; rw [if_pos hE]; exact ⟨rfl, hE⟩
    clear hE
    go_enter Tryz.func9, Tryz.ntmps9
    go_wp2_with (first | (go_at_call 35; refine (nnet_sl l _ h).mono ?_; rintro e w1 ⟨rfl, hb1⟩; (first | replace h := h.st0 hb1 | replace h := h.st1 hb1 | replace h := h.std hb1 | replace h := h.std1 hb1 | replace h := h.st2 hb1 | replace h := h.std2 hb1 | replace h := h.st3 hb1)) | (go_at_call 38; refine (moved_any mirK _ (.inl rfl) mirG mir_near l _ h hok.ok hok.len1).mono ?_; rintro e w2 ⟨v2, rfl, hown2, hb2⟩))
    go_ret2
    exact ⟨_, by rw [HS.out.2]; rfl, by rw [HS.out.1]; exact hown2.base_mono hb1.size, by (repeat (first | exact bl_refl | assumption | (apply bl_then; assumption) | refine bl_alloc ?_ _ | refine bl_drew ?_ | refine bl_drewN ?_ _))⟩
  · have hE' : (netE l != 0) = true := by simpa using hE
    have HS : Hid (onlyOk (netE l) (mirN l) = []) := by unfold Hid onlyOk; rw [if_neg hE]
    clear hE
    go_enter Tryz.func9, Tryz.ntmps9
    go_wp2_with (go_at_call 35; refine (nnet_sl l _ h).mono ?_; rintro e w1 ⟨rfl, hb1⟩; (first | replace h := h.st0 hb1 | replace h := h.st1 hb1 | replace h := h.std hb1 | replace h := h.std1 hb1 | replace h := h.st2 hb1 | replace h := h.std2 hb1 | replace h := h.st3 hb1))
    go_ret2
    exact ⟨_, rfl, by rw [HS.out]; exact Own.nil_, by (repeat (first | exact bl_refl | assumption | (apply bl_then; assumption) | refine bl_alloc ?_ _ | refine bl_drew ?_ | refine bl_drewN ?_ _))⟩
/-- by how many quarters -/
def qN (q : Int) : Nat := ((q.tmod 4 + 4).tmod 4).toNat
theorem qN_eq (q : Int) : (wrap64 (q.tmod 4 + 4)).tmod 4 = (qN q : Int) := by
  have h1 := Int.tmod_lt_of_pos q (b := 4) (by decide)
  have h2 : -4 < q.tmod 4 := by rw [Int.tmod_eq_emod]; split <;> omega
  have h3 : wrap64 (q.tmod 4 + 4) = q.tmod 4 + 4 := IntWalk.wrap64_in _ (by omega)
  rw [h3]
  unfold qN
  have : 0 ≤ (q.tmod 4 + 4).tmod 4 := Int.tmod_nonneg _ (by omega)
  omega
theorem apiTurn_any {v : Value} (l : List Bar) (q : Int) (w : World) (h : SlB w v l) : Calls Tryz.prog 10 #[v, .int .i64 q] w (RBE w (onlyOk (netE l) (turnN (qN q) l)) (netE l)) := by
  by_cases hE : netE l = 0
  · have hok := netE_ok hE
    have hends := Lib.hid (netE_ends hE)
    have hE' : (netE l != 0) = false := by simp [hE]
    have HS : Hid (onlyOk (netE l) (turnN (qN q) l) = turnN (qN q) l ∧ netE l = 0) := by unfold Hid onlyOk; rw [if_pos hE]; exact ⟨rfl, hE⟩
    have HO := Lib.hid hok
    have hlen := hok.len
    clear hE hok
    go_enter Tryz.func10, Tryz.ntmps10
    go_wp2_with (first | (go_at_call 35; refine (nnet_sl l _ h).mono ?_; rintro e w1 ⟨rfl, hb1⟩; (first | replace h := h.st0 hb1 | replace h := h.st1 hb1 | replace h := h.std hb1 | replace h := h.std1 hb1 | replace h := h.st2 hb1 | replace h := h.std2 hb1 | replace h := h.st3 hb1)) | (go_at_call 40; refine (clone_any l _ h (by omega)).mono ?_; rintro e w2 ⟨v2, rfl, hown2, hb2⟩))
    have hbw2 : Below w.heap.size w w2 := by (repeat (first | exact bl_refl | assumption | (apply bl_then; assumption) | refine bl_alloc ?_ _ | refine bl_drew ?_ | refine bl_drewN ?_ _))
    have hO2 := hown2.base_mono (show w.heap.size ≤ w1.heap.size from hb1.size)
    have hqn := qN_eq q
    obtain ⟨m, hm⟩ : ∃ m, qN q = m := ⟨_, rfl⟩
    have hm3 : m ≤ 3 := by
      have h1 := Int.tmod_lt_of_pos (q.tmod 4 + 4) (b := 4) (by decide)
      rw [← hm]
      unfold qN
      omega
    rw [hm] at hqn
    have HM := Lib.hid hm
    go_upto_region 6 with fail
    rw [hqn]
    clear hm hb1 hb2 hown2 hqn
    go_loopw [7, 19] (fun o i wr => ∃ n : Nat, n ≤ m ∧ i = .int .i64 n ∧ OwB w.heap.size wr o (turnN n l) ∧ Below w.heap.size w wr) (fun _ i _ => m - (intOf i).toNat)
    case atStart => exact ⟨0, Nat.zero_le _, rfl, hO2, hbw2⟩
    case round =>
      clear hO2 hbw2
      obtain ⟨n, hn, rfl, hO, hbw⟩ := hrel
      obtain ⟨wo, rfl⟩ : ∃ x, x = wr := ⟨_, rfl⟩
      by_cases hnm : n < m
      · have hl2 := turnN_len l n
        go_wp2_with fail
        refine (moved_any turnK _ (.inr rfl) turnG turn_near _ _ (hO.rd bc_len) (fun b hb => (turnN_ends hends.out n b hb).ok) (by omega)).mono ?_
        rintro e w3 ⟨v3, rfl, hO3, hb3⟩
        have hO3' : OwB w.heap.size w3 v3 (turnN (n + 1) l) := hO3.base_mono hbw.size
        go_wp2
        go_roundw
        case rel => exact ⟨n + 1, by omega, by go_num, hO3', bl_then hb3 hbw⟩
        case measure => simp [intOf]; omega
      · have hnm2 : n = m := by omega
        rw [hnm2, ← HM.out] at hO
        clear hnm2
        go_wp2
        go_ret2
        exact ⟨_, by rw [HS.out.2]; rfl, by rw [HS.out.1]; exact hO, hbw⟩
  · have hE' : (netE l != 0) = true := by simpa using hE
    have HS : Hid (onlyOk (netE l) (turnN (qN q) l) = []) := by unfold Hid onlyOk; rw [if_neg hE]
    clear hE
    go_enter Tryz.func10, Tryz.ntmps10
    go_wp2_with (go_at_call 35; refine (nnet_sl l _ h).mono ?_; rintro e w1 ⟨rfl, hb1⟩; (first | replace h := h.st0 hb1 | replace h := h.st1 hb1 | replace h := h.std hb1 | replace h := h.std1 hb1 | replace h := h.st2 hb1 | replace h := h.std2 hb1 | replace h := h.st3 hb1))
    go_ret2
    exact ⟨_, rfl, by rw [HS.out]; exact Own.nil_, by (repeat (first | exact bl_refl | assumption | (apply bl_then; assumption) | refine bl_alloc ?_ _ | refine bl_drew ?_ | refine bl_drewN ?_ _))⟩
end Go.Proofs.YtpompeancmonbaaGreat

/- Shift, and two nets compared, of the program, walked. Conditions: the slices read as lists. -/
namespace Go.Proofs.YtpompeancmonbaaGreat
open Go.RowKit Go.ChangeMaps
set_option maxHeartbeats 4000000
set_option maxRecDepth 100000

def shiftE (l : List Bar) (x y : Int) : Int := if degE l x y = 0 then shE (x, y) l else degE l x y
def shiftL (l : List Bar) (x y : Int) : List Bar := if degE l x y = 0 then shL (x, y) l else []
theorem apiShift_any {v : Value} (l : List Bar) (x y : Int) (w : World) (h : SlB w v l) : Calls Tryz.prog 7 #[v, .agg #[.int .i64 x, .int .i64 y]] w (RBE w (shiftL l x y) (shiftE l x y)) := by
  have hB := Blk.new w 32 #[.int .i64 x, .int .i64 y]
  have h0 := h.alloc (.cells #[.int .i64 x, .int .i64 y] 32)
  have fB := hB.facts
  by_cases hE : degE l x y = 0
  · obtain ⟨hz, hk⟩ := firstI_zero hE
    obtain ⟨z1, z2, z3, z4, _⟩ := knotE_zero hk
    have hok := netE_ok hz
    have HZ := Lib.hid hz
    have HS : Hid (shiftL l x y = shL (x, y) l ∧ shiftE l x y = shE (x, y) l) := by unfold Hid shiftL shiftE; rw [if_pos hE, if_pos hE]; exact ⟨rfl, rfl⟩
    have hF : ∀ A c W, Rd ic 1 W A [netE l, knotE x y] → Calls Tryz.prog 34 #[.slice A 2 c] W (RV W (.int .i64 0)) := fun A c W hr => by
      have := nfirst_any [netE l, knotE x y] A c W (by simp [maxLen]) hr
      rwa [show firstI [netE l, knotE x y] = 0 from hE] at this
    clear hE hz hk
    go_enter Tryz.func7, Tryz.ntmps7
    go_wp2
    refine wp_region_ords [0, 2] [(1, false)] [3, 4, 5, 6] (by kernel_rfl) (by kernel_rfl) (fun d _ _ _ _ h => by cases d <;> exact h) ?_
    simp only [List.map_cons, List.map_nil, List.getD_cons_zero, List.getD_cons_succ]
    repeat (go_big_quiet_step (fail))
    refine wpQuiet_nil ?_
    refine wpMid_run rfl (fun K hK => ?_)
    go_simp
    refine (nnet_sl l _ (h0.below (by (repeat (first | exact bl_refl | assumption | (apply bl_then; assumption) | refine bl_alloc ?_ _ | refine bl_drew ?_ | refine bl_drewN ?_ _))))).mono ?_
    rintro e w1 ⟨rfl, hb1⟩
    refine hK _ _ (by (repeat (first | exact bl_refl | assumption | (apply bl_then; assumption) | refine bl_alloc ?_ _ | refine bl_drew ?_ | refine bl_drewN ?_ _))) ?_
    clear hK K
    have hB_w1 := hB.below (show Below _ _ w1 by (repeat (first | exact bl_refl | assumption | (apply bl_then; assumption) | refine bl_alloc ?_ _ | refine bl_drew ?_ | refine bl_drewN ?_ _)))
    have fhB_w1 := hB_w1.facts
    refine wpMid_nil ?_
    have h1 := h0.below (show Below _ _ w1 by (repeat (first | exact bl_refl | assumption | (apply bl_then; assumption) | refine bl_alloc ?_ _ | refine bl_drew ?_ | refine bl_drewN ?_ _)))
    go_wp2_with (first | (go_at_call 36; refine (nknot_any x y _).mono ?_; rintro e w2 ⟨rfl, hb2⟩; have hB2 := hB_w1.below hb2; have fB2 := hB2.facts) | (go_at_call 34; go_must (refine (hF _ _ _ (Rd.ints2 (by simp) (by go_simp) (by go_simp))).mono ?_); rintro e w3 ⟨rfl, hb3⟩; have hB3 := ((hB2.alloc (.cells #[.int .i64 (netE l), .int .i64 (knotE x y)] 34)).below hb3); have fB3 := hB3.facts))
    have h3 := (h1.below hb2).below (show Below _ _ w3 by (repeat (first | exact bl_refl | assumption | (apply bl_then; assumption) | refine bl_alloc ?_ _ | refine bl_drew ?_ | refine bl_drewN ?_ _)))
    refine (nshifted_any l x y _ h3 hok.ok hok.len1 (by omega) (by omega)).mono ?_
    rintro e w4 ⟨v4, rfl, hO4, hb4⟩
    have hbw3 : Below w.heap.size w w3 := by (repeat (first | exact bl_refl | assumption | (apply bl_then; assumption) | refine bl_alloc ?_ _ | refine bl_drew ?_ | refine bl_drewN ?_ _))
    go_wp2
    go_ret2
    exact ⟨_, by rw [HS.out.2]; rfl, by rw [HS.out.1]; exact hO4.base_mono hbw3.size, by (repeat (first | exact bl_refl | assumption | (apply bl_then; assumption) | refine bl_alloc ?_ _ | refine bl_drew ?_ | refine bl_drewN ?_ _))⟩
  · have HS : Hid (shiftL l x y = [] ∧ shiftE l x y = degE l x y) := by unfold Hid shiftL shiftE; rw [if_neg hE, if_neg hE]; exact ⟨rfl, rfl⟩
    have hE' : (degE l x y != 0) = true := by simpa using hE
    have hF : ∀ A c W, Rd ic 1 W A [netE l, knotE x y] → Calls Tryz.prog 34 #[.slice A 2 c] W (RV W (.int .i64 (degE l x y))) := fun A c W hr => nfirst_any [netE l, knotE x y] A c W (by simp [maxLen]) hr
    clear hE
    go_enter Tryz.func7, Tryz.ntmps7
    go_wp2
    refine wp_region_ords [0, 2] [(1, false)] [3, 4, 5, 6] (by kernel_rfl) (by kernel_rfl) (fun d _ _ _ _ h => by cases d <;> exact h) ?_
    simp only [List.map_cons, List.map_nil, List.getD_cons_zero, List.getD_cons_succ]
    repeat (go_big_quiet_step (fail))
    refine wpQuiet_nil ?_
    refine wpMid_run rfl (fun K hK => ?_)
    go_simp
    refine (nnet_sl l _ (h0.below (by (repeat (first | exact bl_refl | assumption | (apply bl_then; assumption) | refine bl_alloc ?_ _ | refine bl_drew ?_ | refine bl_drewN ?_ _))))).mono ?_
    rintro e w1 ⟨rfl, hb1⟩
    refine hK _ _ (by (repeat (first | exact bl_refl | assumption | (apply bl_then; assumption) | refine bl_alloc ?_ _ | refine bl_drew ?_ | refine bl_drewN ?_ _))) ?_
    clear hK K
    have hB_w1 := hB.below (show Below _ _ w1 by (repeat (first | exact bl_refl | assumption | (apply bl_then; assumption) | refine bl_alloc ?_ _ | refine bl_drew ?_ | refine bl_drewN ?_ _)))
    have fhB_w1 := hB_w1.facts
    refine wpMid_nil ?_
    go_wp2_with (first | (go_at_call 36; refine (nknot_any x y _).mono ?_; rintro e w2 ⟨rfl, hb2⟩) | (go_at_call 34; go_must (refine (hF _ _ _ (Rd.ints2 (by simp) (by go_simp) (by go_simp))).mono ?_); rintro e w3 ⟨rfl, hb3⟩))
    go_ret2
    exact ⟨_, by rw [HS.out.2]; rfl, by rw [HS.out.1]; exact Own.nil_, by (repeat (first | exact bl_refl | assumption | (apply bl_then; assumption) | refine bl_alloc ?_ _ | refine bl_drew ?_ | refine bl_drewN ?_ _))⟩
/-- two lists of bars, by their first difference, then by their length -/
def cmpL : List Bar → List Bar → Int
  | [], [] => 0
  | [], _ :: _ => -1
  | _ :: _, [] => 1
  | a :: l, b :: r => if barCmp a.1 a.2.1 a.2.2 b.1 b.2.1 b.2.2 ≠ 0 then barCmp a.1 a.2.1 a.2.2 b.1 b.2.1 b.2.2 else cmpL l r
theorem cmpL_drop {l r : List Bar} {k : Nat} (hl : k < l.length) (hr : k < r.length) : cmpL (l.drop k) (r.drop k) = if barCmp l[k].1 l[k].2.1 l[k].2.2 r[k].1 r[k].2.1 r[k].2.2 ≠ 0 then barCmp l[k].1 l[k].2.1 l[k].2.2 r[k].1 r[k].2.1 r[k].2.2 else cmpL (l.drop (k + 1)) (r.drop (k + 1)) := by
  rw [List.drop_eq_getElem_cons hl, List.drop_eq_getElem_cons hr, cmpL]
theorem cmpL_long {l r : List Bar} {k : Nat} (hl : k < l.length) (hr : r.length ≤ k) : cmpL (l.drop k) (r.drop k) = 1 := by
  rw [List.drop_eq_getElem_cons hl, List.drop_eq_nil_of_le hr, cmpL]
theorem cmpL_end {l r : List Bar} {k : Nat} (hl : l.length = k) (hk : k ≤ r.length) : cmpL (l.drop k) (r.drop k) = if l.length < r.length then -1 else 0 := by
  rw [List.drop_eq_nil_of_le (by omega)]
  by_cases h : k < r.length
  · rw [List.drop_eq_getElem_cons h, if_pos (by omega), cmpL]
  · rw [List.drop_eq_nil_of_le (by omega), if_neg (by omega), cmpL]
end Go.Proofs.YtpompeancmonbaaGreat

/- The canonical form of a net, of the program, walked. Conditions: the slices read as lists. -/
namespace Go.Proofs.YtpompeancmonbaaGreat
open Go.RowKit Go.ChangeMaps
set_option maxHeartbeats 4000000
set_option maxRecDepth 100000

/-- the forms of a net, one by one: turned by quarters, then its mirror turned -/
def frm (l : List Bar) (k : Nat) : List Bar := if k < 4 then turnN k l else turnN (k - 4) (mirN l)
def hdK : List Bar → Knot
  | [] => (0, 0)
  | b :: _ => (-b.1, -b.2.1)
/-- a net shifted so that its first bar begins at the origin -/
def nrm (f : List Bar) : List Bar := f.map (shB (hdK f))
def bst (l : List Bar) : Nat → List Bar
  | 0 => []
  | k + 1 => if k = 0 ∨ cmpL (nrm (frm l k)) (bst l k) < 0 then nrm (frm l k) else bst l k
def allN (l : List Bar) : Nat → Bool
  | 0 => true
  | k + 1 => allN l k && allIn (nrm (frm l k))
def canE (l : List Bar) : Int := if netE l ≠ 0 then netE l else if l = [] then 0 else if allN l 8 then 0 else 3
def canL (l : List Bar) : List Bar := if netE l ≠ 0 ∨ l = [] then [] else if allN l 8 then bst l 8 else []
theorem allN_mono {l : List Bar} : ∀ {n m : Nat}, n ≤ m → allN l m = true → allN l n = true
  | n, 0, h, _ => by obtain rfl : n = 0 := by omega
                     rfl
  | n, m + 1, h, h2 => by
    by_cases e : n = m + 1
    · rw [e]; exact h2
    · rw [allN, Bool.and_eq_true] at h2
      exact allN_mono (by omega) h2.1
theorem frm_len (l : List Bar) (k : Nat) : (frm l k).length = l.length := by
  unfold frm
  split
  · exact turnN_len l k
  · rw [turnN_len]; unfold mirN; rw [srtB_length, List.length_map]
theorem mirN_ends {l : List Bar} (h : ∀ b ∈ l, EndsIn b) : ∀ b ∈ mirN l, EndsIn b := fun b hb => by
  unfold mirN at hb
  rw [srtB_mem, List.mem_map] at hb
  obtain ⟨c, hc, rfl⟩ := hb
  rw [mvB_mir]
  exact (h c hc).mir
theorem bst_ne {l : List Bar} (h : l ≠ []) : ∀ k, 0 < k → bst l k ≠ []
  | 0, h0 => by omega
  | k + 1, _ => by
    unfold bst
    split
    · intro e
      have h1 := frm_len l k
      have h2 : (nrm (frm l k)).length = 0 := by rw [e]; rfl
      unfold nrm at h2
      rw [List.length_map, h1] at h2
      exact h (List.eq_nil_of_length_eq_zero h2)
    · rename_i h2
      exact bst_ne h k (by omega)
theorem bst_len (l : List Bar) : ∀ k, (bst l k).length ≤ l.length
  | 0 => by simp [bst]
  | k + 1 => by
    unfold bst
    split
    · unfold nrm; rw [List.length_map, frm_len]; exact Nat.le_refl _
    · exact bst_len l k
theorem hdK_get {X : List Bar} (h : 0 < X.length) : hdK X = (-(X[0]).1, -(X[0]).2.1) := by
  cases X with
  | nil => simp at h
  | cons a r => rfl
end Go.Proofs.YtpompeancmonbaaGreat

/- Nets turned and mirrored, and the canonical form, plain. Conditions: the net is in its order. -/
namespace Go.Proofs.YtpompeancmonbaaGreat
open Go.RowKit Go.ChangeMaps
set_option maxHeartbeats 4000000
set_option maxRecDepth 100000

theorem turn_up (x y : Int) : turnB (x, y, 1) = (-y, x, -1) := by
  unfold turnB btwB; simp only; rw [if_neg (by omega)]; simp only [Prod.mk.injEq, true_and] <;> omega
theorem turn_dn (x y : Int) : turnB (x, y, -1) = (-y - 1, x - 1, 1) := by
  unfold turnB btwB; simp only; rw [if_pos (by omega)]; simp only [Prod.mk.injEq] <;> omega
theorem turnB_of {b : Bar} (h : Sided b) : turnB b = if b.2.2 = 1 then (-b.2.1, b.1, -1) else (-b.2.1 - 1, b.1 - 1, 1) := by
  obtain ⟨x, y, s⟩ := b
  unfold Sided at h
  simp only at h
  obtain rfl | rfl := h
  · rw [turn_up]; rfl
  · rw [turn_dn]; rfl
theorem turnB_sided {b : Bar} (h : Sided b) : Sided (turnB b) := by
  rw [turnB_of h]; unfold Sided; split <;> simp
theorem mirB_sided {b : Bar} (h : Sided b) : Sided (mirB b) := by
  obtain ⟨x, y, s⟩ := b
  unfold Sided mirB at *
  simp only at *
  omega
theorem turnB_two {b : Bar} (h : Sided b) : turnB (turnB b) = (-b.1 - b.2.2, -b.2.1 - 1, b.2.2) := by
  obtain ⟨x, y, s⟩ := b
  unfold Sided at h
  simp only at h
  obtain rfl | rfl := h
  · simp only [turn_up, turn_dn]
  · simp only [turn_up, turn_dn, Prod.mk.injEq, and_true]; omega
theorem turnB_four {b : Bar} (h : Sided b) : turnB (turnB (turnB (turnB b))) = b := by
  have h2 := turnB_sided (turnB_sided h)
  rw [turnB_two h2, turnB_two h]
  obtain ⟨x, y, s⟩ := b
  simp only [Prod.mk.injEq]
  exact ⟨by omega, by omega, trivial⟩
theorem turnB_inj {a b : Bar} (ha : Sided a) (hb : Sided b) (h : turnB a = turnB b) : a = b := by
  rw [← turnB_four ha, h, turnB_four hb]
theorem nodup_map {α β : Type} {f : α → β} {l : List α} (hn : l.Nodup) (hf : ∀ a ∈ l, ∀ b ∈ l, f a = f b → a = b) : (l.map f).Nodup := by
  rw [List.nodup_iff_pairwise_ne, List.pairwise_map]
  exact hn.imp_of_mem fun ha hb hne e => hne (hf _ ha _ hb e)
theorem split_len {α : Type} (p : α → Bool) : ∀ l : List α, l.length = (l.filter p).length + (l.filter fun b => !p b).length
  | [] => rfl
  | a :: l => by
    have := split_len p l
    cases h : p a <;> simp [h] <;> omega
theorem mirN_eq (l : List Bar) : mirN l = srtB (l.map mirB) := by
  unfold mirN
  congr 1
  exact List.map_congr_left fun b _ => mvB_mir
theorem turnN_eq (n : Nat) (l : List Bar) : turnN (n + 1) l = srtB ((turnN n l).map turnB) := rfl
theorem mirN_mem (l : List Bar) (b : Bar) : b ∈ mirN l ↔ mirB b ∈ l := by
  rw [mirN_eq, srtB_mem, List.mem_map]
  constructor
  · rintro ⟨c, hc, rfl⟩; rwa [mirB_mirB]
  · intro h; exact ⟨_, h, mirB_mirB b⟩
theorem mirN_set {l : List Bar} (hn : l.Nodup) : mirN l = setB (l.map mirB) := by
  rw [mirN_eq, setB_srt (nodup_map hn fun a _ b _ h => mirB_inj h)]
theorem mirN_sorted {l : List Bar} (hn : l.Nodup) : (mirN l).Pairwise bltP := by
  rw [mirN_eq]; exact srtB_sorted (nodup_map hn fun a _ b _ h => mirB_inj h)
theorem mirN_sided {l : List Bar} (h : ∀ b ∈ l, Sided b) : ∀ b ∈ mirN l, Sided b := fun b hb => by
  rw [mirN_mem] at hb
  rw [← mirB_mirB b]; exact mirB_sided (h _ hb)
theorem turnN_sided {l : List Bar} (h : ∀ b ∈ l, Sided b) : ∀ n, ∀ b ∈ turnN n l, Sided b
  | 0 => h
  | n + 1 => fun b hb => by
    rw [turnN_eq, srtB_mem, List.mem_map] at hb
    obtain ⟨c, hc, rfl⟩ := hb
    exact turnB_sided (turnN_sided h n c hc)
theorem turnN_nodup {l : List Bar} (hn : l.Nodup) (h : ∀ b ∈ l, Sided b) : ∀ n, (turnN n l).Nodup
  | 0 => hn
  | n + 1 => by
    rw [turnN_eq]
    exact sortedB_nodup (srtB_sorted (nodup_map (turnN_nodup hn h n) fun a ha b hb => turnB_inj (turnN_sided h n a ha) (turnN_sided h n b hb)))
theorem turnN_sorted {l : List Bar} (hs : l.Pairwise bltP) (h : ∀ b ∈ l, Sided b) : ∀ n, (turnN n l).Pairwise bltP
  | 0 => hs
  | n + 1 => by
    rw [turnN_eq]
    exact srtB_sorted (nodup_map (turnN_nodup (sortedB_nodup hs) h n) fun a ha b hb => turnB_inj (turnN_sided h n a ha) (turnN_sided h n b hb))
theorem turnN_set {l : List Bar} (hn : l.Nodup) (h : ∀ b ∈ l, Sided b) (n : Nat) : turnN (n + 1) l = setB ((turnN n l).map turnB) := by
  rw [turnN_eq, setB_srt (nodup_map (turnN_nodup hn h n) fun a ha b hb => turnB_inj (turnN_sided h n a ha) (turnN_sided h n b hb))]
/-- the reference's quarter turns -/
def rturnN : Nat → List Bar → List Bar
  | 0, l => l
  | n + 1, l => setB ((rturnN n l).map turnB)
theorem rturnN_eq {l : List Bar} (hn : l.Nodup) (h : ∀ b ∈ l, Sided b) : ∀ n, rturnN n l = turnN n l
  | 0 => rfl
  | n + 1 => by rw [rturnN, rturnN_eq hn h n, turnN_set hn h]
theorem turnN_mem (l : List Bar) (x : Bar) (n : Nat) : x ∈ turnN (n + 1) l ↔ ∃ b ∈ turnN n l, turnB b = x := by
  rw [turnN_eq, srtB_mem, List.mem_map]
theorem turnN_four {l : List Bar} (hs : l.Pairwise bltP) (h : ∀ b ∈ l, Sided b) : turnN 4 l = l :=
  sortedB_eq (turnN_sorted hs h 4) hs fun x => by
    constructor
    · intro hx
      obtain ⟨b3, h3, rfl⟩ := (turnN_mem l x 3).1 hx
      obtain ⟨b2, h2, rfl⟩ := (turnN_mem l _ 2).1 h3
      obtain ⟨b1, h1, rfl⟩ := (turnN_mem l _ 1).1 h2
      obtain ⟨b0, h0, rfl⟩ := (turnN_mem l _ 0).1 h1
      have h0' : b0 ∈ l := h0
      rw [turnB_four (h b0 h0')]; exact h0'
    · intro hx
      refine (turnN_mem l x 3).2 ⟨_, (turnN_mem l _ 2).2 ⟨_, (turnN_mem l _ 1).2 ⟨_, (turnN_mem l _ 0).2 ⟨x, hx, rfl⟩, rfl⟩, rfl⟩, turnB_four (h x hx)⟩
/-! ## the canonical form, of the reference -/
/-- whether a list comes before another one as long -/
def bef : List Bar → List Bar → Bool
  | [], _ => false
  | _ :: _, [] => false
  | a :: l, b :: r => if a = b then bef l r else decide (bltP a b)
theorem bef_drop {l r : List Bar} {k : Nat} (hl : k < l.length) (hr : k < r.length) : bef (l.drop k) (r.drop k) = if l[k] = r[k] then bef (l.drop (k + 1)) (r.drop (k + 1)) else decide (bltP l[k] r[k]) := by
  rw [List.drop_eq_getElem_cons hl, List.drop_eq_getElem_cons hr, bef]
theorem bef_cmp : ∀ {l r : List Bar}, l.length = r.length → (bef l r = true ↔ cmpL l r < 0)
  | [], [], _ => by simp [bef, cmpL]
  | a :: l, b :: r, h => by
    have ih := bef_cmp (l := l) (r := r) (by simpa using h)
    rw [bef, cmpL]
    by_cases hab : a = b
    · rw [if_pos hab, if_neg (by have := (barCmp_zero a b).2 hab; omega)]; exact ih
    · rw [if_neg hab, if_pos (fun e => hab ((barCmp_zero a b).1 e)), decide_eq_true_eq, barCmp_neg]
  | [], _ :: _, h => by simp at h
  | _ :: _, [], h => by simp at h
/-- the nets that the reference's canonical form goes through: ahead of round k, and in it -/
def rcN (l : List Bar) : Nat → List Bar
  | 0 => l
  | k + 1 => setB ((if k = 4 then setB ((rcN l k).map mirB) else rcN l k).map turnB)
def rcI (l : List Bar) (k : Nat) : List Bar := if k = 4 then setB ((rcN l k).map mirB) else rcN l k
theorem rcN_succ (l : List Bar) (k : Nat) : rcN l (k + 1) = setB ((rcI l k).map turnB) := rfl
def rcB (l : List Bar) : Nat → List Bar
  | 0 => nrm l
  | k + 1 => if bef (nrm (rcI l k)) (rcB l k) then nrm (rcI l k) else rcB l k
def rcA (l : List Bar) : Nat → Bool
  | 0 => allIn (nrm l)
  | k + 1 => rcA l k && allIn (nrm (rcI l k))
theorem rcI_frm {l : List Bar} (hs : l.Pairwise bltP) (h : ∀ b ∈ l, Sided b) {k : Nat} (hk : k < 8) : rcI l k = frm l k := by
  have hn := sortedB_nodup hs
  have lo : ∀ n, n ≤ 4 → rcN l n = turnN n l := fun n => by
    induction n with
    | zero => intro _; rfl
    | succ n ih =>
      intro hn4
      rw [rcN_succ]
      unfold rcI
      rw [if_neg (by omega), ih (by omega), turnN_set hn h]
  have h4 : rcI l 4 = mirN l := by
    unfold rcI
    rw [if_pos rfl, lo 4 (Nat.le_refl 4), turnN_four hs h, mirN_set hn]
  have hi : ∀ n, rcI l (4 + n) = turnN n (mirN l) := fun n => by
    induction n with
    | zero => exact h4
    | succ n ih =>
      unfold rcI
      rw [if_neg (by omega), show 4 + (n + 1) = (4 + n) + 1 from rfl, rcN_succ, ih, turnN_set (sortedB_nodup (mirN_sorted hn)) (mirN_sided h)]
  unfold frm
  by_cases h4' : k < 4
  · rw [if_pos h4', ← lo k (by omega)]
    unfold rcI
    rw [if_neg (by omega)]
  · rw [if_neg h4']
    obtain ⟨n, rfl⟩ : ∃ n, k = 4 + n := ⟨k - 4, by omega⟩
    rw [hi, show 4 + n - 4 = n by omega]
theorem nrm_len (l : List Bar) : (nrm l).length = l.length := by unfold nrm; rw [List.length_map]
theorem bst_len_eq (l : List Bar) : ∀ k, 0 < k → (bst l k).length = l.length
  | 0, h => by omega
  | k + 1, _ => by
    unfold bst
    by_cases hk : k = 0
    · rw [if_pos (.inl hk), nrm_len, frm_len]
    · split
      · rw [nrm_len, frm_len]
      · exact bst_len_eq l k (by omega)
theorem cmpL_self : ∀ l : List Bar, cmpL l l = 0
  | [] => rfl
  | a :: l => by rw [cmpL, if_neg (by have := (barCmp_zero a a).2 rfl; omega)]; exact cmpL_self l
theorem rcB_bst {l : List Bar} (hs : l.Pairwise bltP) (h : ∀ b ∈ l, Sided b) : ∀ {k : Nat}, k < 8 → rcB l (k + 1) = bst l (k + 1)
  | 0, _ => by
    have h2 : bst l 1 = nrm l := by unfold bst; rw [if_pos (.inl rfl)]; rfl
    have h3 : rcB l 1 = nrm l := by
      unfold rcB
      show (if bef (nrm l) (nrm l) = true then nrm l else nrm l) = nrm l
      split <;> rfl
    exact h3.trans h2.symm
  | k + 1, hk => by
    have ih := rcB_bst hs h (k := k) (by omega)
    rw [rcB, bst, ih, rcI_frm hs h hk]
    have hl : (nrm (frm l (k + 1))).length = (bst l (k + 1)).length := by rw [nrm_len, frm_len, bst_len_eq l _ (by omega)]
    have hb := bef_cmp hl
    by_cases hc : cmpL (nrm (frm l (k + 1))) (bst l (k + 1)) < 0
    · rw [if_pos (hb.2 hc), if_pos (.inr hc)]
    · rw [if_neg (fun e => hc (hb.1 e)), if_neg (by simp only [not_or]; exact ⟨by omega, hc⟩)]
theorem rcA_allN {l : List Bar} (hs : l.Pairwise bltP) (h : ∀ b ∈ l, Sided b) : ∀ {k : Nat}, k < 8 → rcA l (k + 1) = allN l (k + 1)
  | 0, _ => by
    have h0 : rcI l 0 = l := rfl
    have h1 : frm l 0 = l := rfl
    rw [rcA, allN, h0, h1, rcA, allN]
    cases allIn (nrm l) <;> rfl
  | k + 1, hk => by rw [rcA, allN, rcA_allN hs h (k := k) (by omega), rcI_frm hs h hk]
end Go.Proofs.YtpompeancmonbaaGreat

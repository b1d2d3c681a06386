/- Walks proved to be runs, and the length of their twine, of the program, walked. Conditions: slices that read as lists. -/
import Derived.Test.YtpompeancmonbaaGreatE19
import Derived.Test.YtpompeancmonbaaGreatE17
namespace Go.Proofs.YtpompeancmonbaaGreat
open Go.RowKit Go.ChangeMaps
set_option maxHeartbeats 4000000
set_option maxRecDepth 100000

def twineE (l : List Knot) (a b : Int) : Int := firstI [cwE l, withinI a 0 100000, withinI b 0 100000]
def twineR (l : List Knot) (a b : Int) : Int := if twineE l a b = 0 then (max 0 ((l.length : Int) - 1)) * a + l.length * b else 0
theorem firstI_zero3 {a b c : Int} (h : firstI [a, b, c] = 0) : a = 0 ∧ b = 0 ∧ c = 0 := by
  unfold firstI at h
  split at h
  · rename_i h1
    have := firstI_zero (a := b) (b := c) h
    exact ⟨h1, this.1, this.2⟩
  · rename_i h1; exact absurd h h1
theorem within_zero {n lo hi : Int} (h : withinI n lo hi = 0) : lo ≤ n ∧ n ≤ hi := by
  unfold withinI whenI at h
  split at h
  · cases h
  · rename_i h1
    simp only [Bool.or_eq_true, decide_eq_true_eq] at h1
    omega
theorem cwE_len {l : List Knot} (h : cwE l = 0) : l.length ≤ 4097 := by
  unfold cwE at h
  split at h
  · cases h
  · omega
/-! ## a walk as a run -/
def startsB (D : List Bar) (l : List Knot) : Bool := match l with
  | [] => false
  | k :: _ => isRunP D (walkL D k) && decide (walkL D k = l)
def oneB (D : List Bar) (l : List Knot) : Bool := match l with
  | [] => false
  | k :: _ => cnt (legsAt D k) == 1
def provedE (N D : List Bar) (l : List Knot) : Int :=
  if firstI [tornE N D, cwE l] = 0 then if rdyB D then if oneB D l then whenI (!startsB D l) 21 else 21 else 18 else firstI [tornE N D, cwE l]
theorem proved_any {v u x : Value} (N D : List Bar) (l : List Knot) (w : World) (hN : SlB w v N) (hD : SlB w u D) (hl : SlK w x l) : Calls Tryz.prog 77 #[.agg #[v, u], x] w (RV w (.int .i64 (provedE N D l))) := by
  have hB := Blk.new w 27 #[v, u]
  have hN0 := hN.alloc (.cells #[v, u] 27)
  have hD0 := hD.alloc (.cells #[v, u] 27)
  have hL0 := hl.alloc (.cells #[v, u] 27)
  by_cases hE0 : firstI [tornE N D, cwE l] = 0
  · have hE' : (firstI [tornE N D, cwE l] != 0) = false := by rw [hE0]; rfl
    have HS : Hid (provedE N D l = if rdyB D then if oneB D l then whenI (!startsB D l) 21 else 21 else 18) := by unfold Hid provedE; rw [if_pos hE0]
    obtain ⟨z1, z2⟩ := firstI_zero hE0
    have hok := torn_ok z1
    have hl' := cwE_len z2
    clear hE0 z1 z2
    by_cases hR : rdyB D = true
    · have HS2 : Hid (provedE N D l = if oneB D l then whenI (!startsB D l) 21 else 21) := by unfold Hid; rw [HS.out, if_pos hR]
      have hl0 := hl
      obtain ⟨A, c, rfl, hlc, hcm, hr⟩ := hl
      by_cases hz : l.length = 0
      · have hzB : ((l.length : Int) == 0) = true := by simp [hz]
        have HS3 : Hid (provedE N D l = 21) := by
          obtain rfl : l = [] := List.eq_nil_of_length_eq_zero hz
          exact HS2.out
        clear HS HS2 hz
        go_enter Tryz.func77, Tryz.ntmps77
        go_wp2_with (first | (go_at_call 45; refine (mtorn_any N D _ hN0 hD0).mono ?_; rintro e w1 ⟨rfl, hb1⟩; (first | replace hB := hB.st0 hb1 | replace hB := hB.st1 hb1 | replace hB := hB.std hb1 | replace hB := hB.std1 hb1 | replace hB := hB.st2 hb1 | replace hB := hB.std2 hb1 | replace hB := hB.st3 hb1); have kB := hB.facts; (first | replace hN0 := hN0.st0 hb1 | replace hN0 := hN0.st1 hb1 | replace hN0 := hN0.std hb1 | replace hN0 := hN0.std1 hb1 | replace hN0 := hN0.st2 hb1 | replace hN0 := hN0.std2 hb1 | replace hN0 := hN0.st3 hb1); (first | replace hD0 := hD0.st0 hb1 | replace hD0 := hD0.st1 hb1 | replace hD0 := hD0.std hb1 | replace hD0 := hD0.std1 hb1 | replace hD0 := hD0.st2 hb1 | replace hD0 := hD0.std2 hb1 | replace hD0 := hD0.st3 hb1); (first | replace hL0 := hL0.st0 hb1 | replace hL0 := hL0.st1 hb1 | replace hL0 := hL0.std hb1 | replace hL0 := hL0.std1 hb1 | replace hL0 := hL0.st2 hb1 | replace hL0 := hL0.std2 hb1 | replace hL0 := hL0.st3 hb1)) | (go_at_call 63; refine (checkWalk_any l _ hL0).mono ?_; rintro e w2 ⟨rfl, hb2⟩; (first | replace hB := hB.st0 hb2 | replace hB := hB.st1 hb2 | replace hB := hB.std hb2 | replace hB := hB.std1 hb2 | replace hB := hB.st2 hb2 | replace hB := hB.std2 hb2 | replace hB := hB.st3 hb2); have kB := hB.facts; (first | replace hN0 := hN0.st0 hb2 | replace hN0 := hN0.st1 hb2 | replace hN0 := hN0.std hb2 | replace hN0 := hN0.std1 hb2 | replace hN0 := hN0.st2 hb2 | replace hN0 := hN0.std2 hb2 | replace hN0 := hN0.st3 hb2); (first | replace hD0 := hD0.st0 hb2 | replace hD0 := hD0.st1 hb2 | replace hD0 := hD0.std hb2 | replace hD0 := hD0.std1 hb2 | replace hD0 := hD0.st2 hb2 | replace hD0 := hD0.std2 hb2 | replace hD0 := hD0.st3 hb2); (first | replace hL0 := hL0.st0 hb2 | replace hL0 := hL0.st1 hb2 | replace hL0 := hL0.std hb2 | replace hL0 := hL0.std1 hb2 | replace hL0 := hL0.st2 hb2 | replace hL0 := hL0.std2 hb2 | replace hL0 := hL0.st3 hb2)) | (go_at_call 44; refine (mfirst_any [tornE N D, cwE l] _ _ _ (by simp [maxLen]) (Rd.ints2 (by simp) (by go_simp) (by go_simp))).mono ?_; rintro e w3 ⟨rfl, hb3⟩; (first | replace hB := hB.st0 hb3 | replace hB := hB.st1 hb3 | replace hB := hB.std hb3 | replace hB := hB.std1 hb3 | replace hB := hB.st2 hb3 | replace hB := hB.std2 hb3 | replace hB := hB.st3 hb3); have kB := hB.facts; (first | replace hN0 := hN0.st0 hb3 | replace hN0 := hN0.st1 hb3 | replace hN0 := hN0.std hb3 | replace hN0 := hN0.std1 hb3 | replace hN0 := hN0.st2 hb3 | replace hN0 := hN0.std2 hb3 | replace hN0 := hN0.st3 hb3); (first | replace hD0 := hD0.st0 hb3 | replace hD0 := hD0.st1 hb3 | replace hD0 := hD0.std hb3 | replace hD0 := hD0.std1 hb3 | replace hD0 := hD0.st2 hb3 | replace hD0 := hD0.std2 hb3 | replace hD0 := hD0.st3 hb3); (first | replace hL0 := hL0.st0 hb3 | replace hL0 := hL0.st1 hb3 | replace hL0 := hL0.std hb3 | replace hL0 := hL0.std1 hb3 | replace hL0 := hL0.st2 hb3 | replace hL0 := hL0.std2 hb3 | replace hL0 := hL0.st3 hb3)) |
          (go_at_call 47; refine (newHole_any D _ hD0 hok.dam.nodup hok.dam.ok).mono ?_; rintro e w4 ⟨h, rb, rk, rfl, _, _, _, H4, hb4⟩) | (go_at_call 52; refine (ready_any _ _ _ D _ H4 hok.dam.ok hok.lens.2).mono ?_; rintro e w5 ⟨rfl, hb5⟩; simp only [hR]))
        refine wp_region_ords [0, 1, 2, 3, 4, 5, 6, 7, 8, 9, 10, 11] [] [12, 13, 14] (by kernel_rfl) (by kernel_rfl) (fun d _ _ _ _ h => by cases d <;> exact h) ?_
        simp only [List.map_cons, List.map_nil, List.getD_cons_zero, List.getD_cons_succ]
        repeat (go_big_quiet_step (fail))
        refine wpQuiet_nil ?_
        refine wpMid_nil ?_
        go_wp2
        go_ret
        exact ⟨ret_int (by rw [HS3.out]), by (repeat (first | exact bl_refl | assumption | (apply bl_then; assumption) | refine bl_alloc ?_ _ | refine bl_drew ?_ | refine bl_drewN ?_ _))⟩
      · have hzB : ((l.length : Int) == 0) = false := by simpa using hz
        have hlt : 0 < l.length := by omega
        obtain ⟨⟨x, y⟩, hxy⟩ : ∃ k, l[0] = k := ⟨_, rfl⟩
        obtain ⟨⟨l0, l1, l2, l3⟩, hL⟩ : ∃ L, legsAt D (x, y) = L := ⟨_, rfl⟩
        obtain ⟨q, hq⟩ : ∃ q, (((cnt (l0, l1, l2, l3) : Nat) : Int) != 1) = q := ⟨_, rfl⟩
        have hqc : (cnt (l0, l1, l2, l3) == 1) = !q := by
          rw [← hq, Bool.eq_iff_iff]
          simp
          omega
        have HS3 : Hid (provedE N D l = if !q then whenI (!(isRunP D (walkL D (x, y)) && decide (walkL D (x, y) = l))) 21 else 21) := by
          unfold Hid
          rw [HS2.out, ← hqc, ← hL]
          cases l with
          | nil => simp at hlt
          | cons k r =>
            obtain rfl : k = (x, y) := hxy
            rfl
        obtain ⟨b, off, rfl, hb, _, _⟩ := hr.knot hlt
        have hcell : ∀ W, SlK W (.slice (some ⟨b, off, none⟩) l.length c) l → W.cell? ⟨b, off, none⟩ = some (.int .i64 x) ∧ W.cell? ⟨b, off + 1, none⟩ = some (.int .i64 y) ∧ b < W.heap.size := by
          intro W hW
          obtain ⟨A', c', he, _, _, hr'⟩ := hW
          obtain ⟨b', off', rfl, hb', e0, e1⟩ := hr'.knot hlt
          rw [hxy] at e0 e1
          obtain ⟨rfl, rfl⟩ : b = b' ∧ off = off' := by simpa using (Value.slice.inj he).1
          exact ⟨by simpa using e0, by simpa using e1, hb'⟩
        have hlk := fun h rb rk W (hW : HoleAt W h rb rk D) => hole_look hW x y
        rw [hL] at hlk
        have hm1 : q = false → cnt (legsAt D (x, y)) = 1 := by intro h0; rw [hL]; simpa [h0] using hqc
        clear HS HS2 hz hqc hL hr hl0 hxy
        cases q
        · replace hm1 := hm1 rfl
          obtain ⟨g, hg⟩ : ∃ g, isRunP D (walkL D (x, y)) = g := ⟨_, rfl⟩
          obtain ⟨g2, hg2⟩ : ∃ g2, decide (walkL D (x, y) = l) = g2 := ⟨_, rfl⟩
          rw [hg, hg2] at HS3
          have hwk := fun h rb rk W (hW : HoleAt W h rb rk D) => walk_any h rb rk D x y W hW hok.dam.ok hok.lens.2 hm1
          rw [hg] at hwk
          have heq := fun v W (h1 : SlK W v (walkL D (x, y))) (h2 : SlK W (.slice (some ⟨b, off, none⟩) l.length c) l) => equalK_any (walkL D (x, y)) l W h1 h2
          rw [hg2] at heq
          clear hg hg2
          go_enter Tryz.func77, Tryz.ntmps77
          go_wp2_with (first | (go_at_call 45; refine (mtorn_any N D _ hN0 hD0).mono ?_; rintro e w1 ⟨rfl, hb1⟩; (first | replace hB := hB.st0 hb1 | replace hB := hB.st1 hb1 | replace hB := hB.std hb1 | replace hB := hB.std1 hb1 | replace hB := hB.st2 hb1 | replace hB := hB.std2 hb1 | replace hB := hB.st3 hb1); have kB := hB.facts; (first | replace hN0 := hN0.st0 hb1 | replace hN0 := hN0.st1 hb1 | replace hN0 := hN0.std hb1 | replace hN0 := hN0.std1 hb1 | replace hN0 := hN0.st2 hb1 | replace hN0 := hN0.std2 hb1 | replace hN0 := hN0.st3 hb1); (first | replace hD0 := hD0.st0 hb1 | replace hD0 := hD0.st1 hb1 | replace hD0 := hD0.std hb1 | replace hD0 := hD0.std1 hb1 | replace hD0 := hD0.st2 hb1 | replace hD0 := hD0.std2 hb1 | replace hD0 := hD0.st3 hb1); (first | replace hL0 := hL0.st0 hb1 | replace hL0 := hL0.st1 hb1 | replace hL0 := hL0.std hb1 | replace hL0 := hL0.std1 hb1 | replace hL0 := hL0.st2 hb1 | replace hL0 := hL0.std2 hb1 | replace hL0 := hL0.st3 hb1)) | (go_at_call 63; refine (checkWalk_any l _ hL0).mono ?_; rintro e w2 ⟨rfl, hb2⟩; (first | replace hB := hB.st0 hb2 | replace hB := hB.st1 hb2 | replace hB := hB.std hb2 | replace hB := hB.std1 hb2 | replace hB := hB.st2 hb2 | replace hB := hB.std2 hb2 | replace hB := hB.st3 hb2); have kB := hB.facts; (first | replace hN0 := hN0.st0 hb2 | replace hN0 := hN0.st1 hb2 | replace hN0 := hN0.std hb2 | replace hN0 := hN0.std1 hb2 | replace hN0 := hN0.st2 hb2 | replace hN0 := hN0.std2 hb2 | replace hN0 := hN0.st3 hb2); (first | replace hD0 := hD0.st0 hb2 | replace hD0 := hD0.st1 hb2 | replace hD0 := hD0.std hb2 | replace hD0 := hD0.std1 hb2 | replace hD0 := hD0.st2 hb2 | replace hD0 := hD0.std2 hb2 | replace hD0 := hD0.st3 hb2); (first | replace hL0 := hL0.st0 hb2 | replace hL0 := hL0.st1 hb2 | replace hL0 := hL0.std hb2 | replace hL0 := hL0.std1 hb2 | replace hL0 := hL0.st2 hb2 | replace hL0 := hL0.std2 hb2 | replace hL0 := hL0.st3 hb2)) | (go_at_call 44; refine (mfirst_any [tornE N D, cwE l] _ _ _ (by simp [maxLen]) (Rd.ints2 (by simp) (by go_simp) (by go_simp))).mono ?_; rintro e w3 ⟨rfl, hb3⟩; (first | replace hB := hB.st0 hb3 | replace hB := hB.st1 hb3 | replace hB := hB.std hb3 | replace hB := hB.std1 hb3 | replace hB := hB.st2 hb3 | replace hB := hB.std2 hb3 | replace hB := hB.st3 hb3); have kB := hB.facts; (first | replace hN0 := hN0.st0 hb3 | replace hN0 := hN0.st1 hb3 | replace hN0 := hN0.std hb3 | replace hN0 := hN0.std1 hb3 | replace hN0 := hN0.st2 hb3 | replace hN0 := hN0.std2 hb3 | replace hN0 := hN0.st3 hb3); (first | replace hD0 := hD0.st0 hb3 | replace hD0 := hD0.st1 hb3 | replace hD0 := hD0.std hb3 | replace hD0 := hD0.std1 hb3 | replace hD0 := hD0.st2 hb3 | replace hD0 := hD0.std2 hb3 | replace hD0 := hD0.st3 hb3); (first | replace hL0 := hL0.st0 hb3 | replace hL0 := hL0.st1 hb3 | replace hL0 := hL0.std hb3 | replace hL0 := hL0.std1 hb3 | replace hL0 := hL0.st2 hb3 | replace hL0 := hL0.std2 hb3 | replace hL0 := hL0.st3 hb3)) |
            (go_at_call 47; refine (newHole_any D _ hD0 hok.dam.nodup hok.dam.ok).mono ?_; rintro e w4 ⟨h, rb, rk, rfl, _, _, _, H4, hb4⟩; replace hL0 := hL0.st0 hb4) | (go_at_call 52; refine (ready_any _ _ _ D _ H4 hok.dam.ok hok.lens.2).mono ?_; rintro e w5 ⟨rfl, hb5⟩; simp only [hR]; replace hL0 := hL0.st0 hb5; have H5 := H4.below hb5))
          have f5 := H5.blk.facts
          have hlk5 := fun g : Bel w5.heap.size w5 => hlk _ _ _ _ (H5.below g.below)
          obtain ⟨c0, c1, c2⟩ := hcell _ hL0
          refine wp_region_ords [0, 1, 2, 3, 4, 5, 6, 7, 8, 9, 10, 11] [] [12, 13, 14] (by kernel_rfl) (by kernel_rfl) (fun d _ _ _ _ h => by cases d <;> exact h) ?_
          simp only [List.map_cons, List.map_nil, List.getD_cons_zero, List.getD_cons_succ]
          repeat (go_big_quiet_step (fail))
          refine wpQuiet_nil ?_
          refine wpMid_nil ?_
          go_wp2_with (go_at_call 57; refine (count_any l0 l1 l2 l3 _).mono ?_; rintro e w6 ⟨rfl, hb6⟩; replace hL0 := hL0.std hb6; have H6 := H5.below (bl_d hb6))
          obtain ⟨d0, d1, d2⟩ := hcell _ hL0
          cases g
          · go_wp2_with (first | (go_at_call 91; refine (hwk _ _ _ _ H6).mono ?_; rintro e w7 ⟨v7, rfl, hown7, hb7⟩; replace hL0 := hL0.st0 hb7) | (go_at_call 46; refine (mwhen_any _ _ _).mono ?_; rintro e w9 ⟨rfl, hb9⟩))
            go_ret
            exact ⟨ret_int (by rw [HS3.out]; rfl), by (repeat (first | exact bl_refl | assumption | (apply bl_then; assumption) | refine bl_alloc ?_ _ | refine bl_drew ?_ | refine bl_drewN ?_ _))⟩
          · go_wp2_with (first | (go_at_call 91; refine (hwk _ _ _ _ H6).mono ?_; rintro e w7 ⟨v7, rfl, hown7, hb7⟩; replace hL0 := hL0.st0 hb7) | (go_at_call 116; refine (heq _ _ (hown7.rd kc_len) hL0).mono ?_; rintro e w8 ⟨rfl, hb8⟩) | (go_at_call 46; refine (mwhen_any _ _ _).mono ?_; rintro e w9 ⟨rfl, hb9⟩))
            go_ret
            exact ⟨ret_int (by rw [HS3.out]; rfl), by (repeat (first | exact bl_refl | assumption | (apply bl_then; assumption) | refine bl_alloc ?_ _ | refine bl_drew ?_ | refine bl_drewN ?_ _))⟩
        · go_enter Tryz.func77, Tryz.ntmps77
          go_wp2_with (first | (go_at_call 45; refine (mtorn_any N D _ hN0 hD0).mono ?_; rintro e w1 ⟨rfl, hb1⟩; (first | replace hB := hB.st0 hb1 | replace hB := hB.st1 hb1 | replace hB := hB.std hb1 | replace hB := hB.std1 hb1 | replace hB := hB.st2 hb1 | replace hB := hB.std2 hb1 | replace hB := hB.st3 hb1); have kB := hB.facts; (first | replace hN0 := hN0.st0 hb1 | replace hN0 := hN0.st1 hb1 | replace hN0 := hN0.std hb1 | replace hN0 := hN0.std1 hb1 | replace hN0 := hN0.st2 hb1 | replace hN0 := hN0.std2 hb1 | replace hN0 := hN0.st3 hb1); (first | replace hD0 := hD0.st0 hb1 | replace hD0 := hD0.st1 hb1 | replace hD0 := hD0.std hb1 | replace hD0 := hD0.std1 hb1 | replace hD0 := hD0.st2 hb1 | replace hD0 := hD0.std2 hb1 | replace hD0 := hD0.st3 hb1); (first | replace hL0 := hL0.st0 hb1 | replace hL0 := hL0.st1 hb1 | replace hL0 := hL0.std hb1 | replace hL0 := hL0.std1 hb1 | replace hL0 := hL0.st2 hb1 | replace hL0 := hL0.std2 hb1 | replace hL0 := hL0.st3 hb1)) | (go_at_call 63; refine (checkWalk_any l _ hL0).mono ?_; rintro e w2 ⟨rfl, hb2⟩; (first | replace hB := hB.st0 hb2 | replace hB := hB.st1 hb2 | replace hB := hB.std hb2 | replace hB := hB.std1 hb2 | replace hB := hB.st2 hb2 | replace hB := hB.std2 hb2 | replace hB := hB.st3 hb2); have kB := hB.facts; (first | replace hN0 := hN0.st0 hb2 | replace hN0 := hN0.st1 hb2 | replace hN0 := hN0.std hb2 | replace hN0 := hN0.std1 hb2 | replace hN0 := hN0.st2 hb2 | replace hN0 := hN0.std2 hb2 | replace hN0 := hN0.st3 hb2); (first | replace hD0 := hD0.st0 hb2 | replace hD0 := hD0.st1 hb2 | replace hD0 := hD0.std hb2 | replace hD0 := hD0.std1 hb2 | replace hD0 := hD0.st2 hb2 | replace hD0 := hD0.std2 hb2 | replace hD0 := hD0.st3 hb2); (first | replace hL0 := hL0.st0 hb2 | replace hL0 := hL0.st1 hb2 | replace hL0 := hL0.std hb2 | replace hL0 := hL0.std1 hb2 | replace hL0 := hL0.st2 hb2 | replace hL0 := hL0.std2 hb2 | replace hL0 := hL0.st3 hb2)) | (go_at_call 44; refine (mfirst_any [tornE N D, cwE l] _ _ _ (by simp [maxLen]) (Rd.ints2 (by simp) (by go_simp) (by go_simp))).mono ?_; rintro e w3 ⟨rfl, hb3⟩; (first | replace hB := hB.st0 hb3 | replace hB := hB.st1 hb3 | replace hB := hB.std hb3 | replace hB := hB.std1 hb3 | replace hB := hB.st2 hb3 | replace hB := hB.std2 hb3 | replace hB := hB.st3 hb3); have kB := hB.facts; (first | replace hN0 := hN0.st0 hb3 | replace hN0 := hN0.st1 hb3 | replace hN0 := hN0.std hb3 | replace hN0 := hN0.std1 hb3 | replace hN0 := hN0.st2 hb3 | replace hN0 := hN0.std2 hb3 | replace hN0 := hN0.st3 hb3); (first | replace hD0 := hD0.st0 hb3 | replace hD0 := hD0.st1 hb3 | replace hD0 := hD0.std hb3 | replace hD0 := hD0.std1 hb3 | replace hD0 := hD0.st2 hb3 | replace hD0 := hD0.std2 hb3 | replace hD0 := hD0.st3 hb3); (first | replace hL0 := hL0.st0 hb3 | replace hL0 := hL0.st1 hb3 | replace hL0 := hL0.std hb3 | replace hL0 := hL0.std1 hb3 | replace hL0 := hL0.st2 hb3 | replace hL0 := hL0.std2 hb3 | replace hL0 := hL0.st3 hb3)) |
            (go_at_call 47; refine (newHole_any D _ hD0 hok.dam.nodup hok.dam.ok).mono ?_; rintro e w4 ⟨h, rb, rk, rfl, _, _, _, H4, hb4⟩; replace hL0 := hL0.st0 hb4) | (go_at_call 52; refine (ready_any _ _ _ D _ H4 hok.dam.ok hok.lens.2).mono ?_; rintro e w5 ⟨rfl, hb5⟩; simp only [hR]; replace hL0 := hL0.st0 hb5; have H5 := H4.below hb5))
          have f5 := H5.blk.facts
          have hlk5 := fun g : Bel w5.heap.size w5 => hlk _ _ _ _ (H5.below g.below)
          obtain ⟨c0, c1, c2⟩ := hcell _ hL0
          refine wp_region_ords [0, 1, 2, 3, 4, 5, 6, 7, 8, 9, 10, 11] [] [12, 13, 14] (by kernel_rfl) (by kernel_rfl) (fun d _ _ _ _ h => by cases d <;> exact h) ?_
          simp only [List.map_cons, List.map_nil, List.getD_cons_zero, List.getD_cons_succ]
          repeat (go_big_quiet_step (fail))
          refine wpQuiet_nil ?_
          refine wpMid_nil ?_
          go_wp2_with (go_at_call 57; refine (count_any l0 l1 l2 l3 _).mono ?_; rintro e w6 ⟨rfl, hb6⟩)
          go_ret
          exact ⟨ret_int (by rw [HS3.out]; rfl), by (repeat (first | exact bl_refl | assumption | (apply bl_then; assumption) | refine bl_alloc ?_ _ | refine bl_drew ?_ | refine bl_drewN ?_ _))⟩
    · have hR' : rdyB D = false := by simpa using hR
      have HS2 : Hid (provedE N D l = 18) := by unfold Hid; rw [HS.out, if_neg hR]
      clear HS hR
      go_enter Tryz.func77, Tryz.ntmps77
      go_wp2_with (first | (go_at_call 45; refine (mtorn_any N D _ hN0 hD0).mono ?_; rintro e w1 ⟨rfl, hb1⟩; (first | replace hB := hB.st0 hb1 | replace hB := hB.st1 hb1 | replace hB := hB.std hb1 | replace hB := hB.std1 hb1 | replace hB := hB.st2 hb1 | replace hB := hB.std2 hb1 | replace hB := hB.st3 hb1); have kB := hB.facts; (first | replace hN0 := hN0.st0 hb1 | replace hN0 := hN0.st1 hb1 | replace hN0 := hN0.std hb1 | replace hN0 := hN0.std1 hb1 | replace hN0 := hN0.st2 hb1 | replace hN0 := hN0.std2 hb1 | replace hN0 := hN0.st3 hb1); (first | replace hD0 := hD0.st0 hb1 | replace hD0 := hD0.st1 hb1 | replace hD0 := hD0.std hb1 | replace hD0 := hD0.std1 hb1 | replace hD0 := hD0.st2 hb1 | replace hD0 := hD0.std2 hb1 | replace hD0 := hD0.st3 hb1); (first | replace hL0 := hL0.st0 hb1 | replace hL0 := hL0.st1 hb1 | replace hL0 := hL0.std hb1 | replace hL0 := hL0.std1 hb1 | replace hL0 := hL0.st2 hb1 | replace hL0 := hL0.std2 hb1 | replace hL0 := hL0.st3 hb1)) | (go_at_call 63; refine (checkWalk_any l _ hL0).mono ?_; rintro e w2 ⟨rfl, hb2⟩; (first | replace hB := hB.st0 hb2 | replace hB := hB.st1 hb2 | replace hB := hB.std hb2 | replace hB := hB.std1 hb2 | replace hB := hB.st2 hb2 | replace hB := hB.std2 hb2 | replace hB := hB.st3 hb2); have kB := hB.facts; (first | replace hN0 := hN0.st0 hb2 | replace hN0 := hN0.st1 hb2 | replace hN0 := hN0.std hb2 | replace hN0 := hN0.std1 hb2 | replace hN0 := hN0.st2 hb2 | replace hN0 := hN0.std2 hb2 | replace hN0 := hN0.st3 hb2); (first | replace hD0 := hD0.st0 hb2 | replace hD0 := hD0.st1 hb2 | replace hD0 := hD0.std hb2 | replace hD0 := hD0.std1 hb2 | replace hD0 := hD0.st2 hb2 | replace hD0 := hD0.std2 hb2 | replace hD0 := hD0.st3 hb2); (first | replace hL0 := hL0.st0 hb2 | replace hL0 := hL0.st1 hb2 | replace hL0 := hL0.std hb2 | replace hL0 := hL0.std1 hb2 | replace hL0 := hL0.st2 hb2 | replace hL0 := hL0.std2 hb2 | replace hL0 := hL0.st3 hb2)) | (go_at_call 44; refine (mfirst_any [tornE N D, cwE l] _ _ _ (by simp [maxLen]) (Rd.ints2 (by simp) (by go_simp) (by go_simp))).mono ?_; rintro e w3 ⟨rfl, hb3⟩; (first | replace hB := hB.st0 hb3 | replace hB := hB.st1 hb3 | replace hB := hB.std hb3 | replace hB := hB.std1 hb3 | replace hB := hB.st2 hb3 | replace hB := hB.std2 hb3 | replace hB := hB.st3 hb3); have kB := hB.facts; (first | replace hN0 := hN0.st0 hb3 | replace hN0 := hN0.st1 hb3 | replace hN0 := hN0.std hb3 | replace hN0 := hN0.std1 hb3 | replace hN0 := hN0.st2 hb3 | replace hN0 := hN0.std2 hb3 | replace hN0 := hN0.st3 hb3); (first | replace hD0 := hD0.st0 hb3 | replace hD0 := hD0.st1 hb3 | replace hD0 := hD0.std hb3 | replace hD0 := hD0.std1 hb3 | replace hD0 := hD0.st2 hb3 | replace hD0 := hD0.std2 hb3 | replace hD0 := hD0.st3 hb3); (first | replace hL0 := hL0.st0 hb3 | replace hL0 := hL0.st1 hb3 | replace hL0 := hL0.std hb3 | replace hL0 := hL0.std1 hb3 | replace hL0 := hL0.st2 hb3 | replace hL0 := hL0.std2 hb3 | replace hL0 := hL0.st3 hb3)) |
        (go_at_call 47; refine (newHole_any D _ hD0 hok.dam.nodup hok.dam.ok).mono ?_; rintro e w4 ⟨h, rb, rk, rfl, _, _, _, H4, hb4⟩) | (go_at_call 52; refine (ready_any _ _ _ D _ H4 hok.dam.ok hok.lens.2).mono ?_; rintro e w5 ⟨rfl, hb5⟩; simp only [hR']))
      go_ret
      exact ⟨ret_int (by rw [HS2.out]), by (repeat (first | exact bl_refl | assumption | (apply bl_then; assumption) | refine bl_alloc ?_ _ | refine bl_drew ?_ | refine bl_drewN ?_ _))⟩
  · have hE' : (firstI [tornE N D, cwE l] != 0) = true := by simpa using hE0
    have HS : Hid (provedE N D l = firstI [tornE N D, cwE l]) := by unfold Hid provedE; rw [if_neg hE0]
    clear hE0
    go_enter Tryz.func77, Tryz.ntmps77
    go_wp2_with (first | (go_at_call 45; refine (mtorn_any N D _ hN0 hD0).mono ?_; rintro e w1 ⟨rfl, hb1⟩; (first | replace hB := hB.st0 hb1 | replace hB := hB.st1 hb1 | replace hB := hB.std hb1 | replace hB := hB.std1 hb1 | replace hB := hB.st2 hb1 | replace hB := hB.std2 hb1 | replace hB := hB.st3 hb1); have kB := hB.facts; (first | replace hN0 := hN0.st0 hb1 | replace hN0 := hN0.st1 hb1 | replace hN0 := hN0.std hb1 | replace hN0 := hN0.std1 hb1 | replace hN0 := hN0.st2 hb1 | replace hN0 := hN0.std2 hb1 | replace hN0 := hN0.st3 hb1); (first | replace hD0 := hD0.st0 hb1 | replace hD0 := hD0.st1 hb1 | replace hD0 := hD0.std hb1 | replace hD0 := hD0.std1 hb1 | replace hD0 := hD0.st2 hb1 | replace hD0 := hD0.std2 hb1 | replace hD0 := hD0.st3 hb1); (first | replace hL0 := hL0.st0 hb1 | replace hL0 := hL0.st1 hb1 | replace hL0 := hL0.std hb1 | replace hL0 := hL0.std1 hb1 | replace hL0 := hL0.st2 hb1 | replace hL0 := hL0.std2 hb1 | replace hL0 := hL0.st3 hb1)) | (go_at_call 63; refine (checkWalk_any l _ hL0).mono ?_; rintro e w2 ⟨rfl, hb2⟩; (first | replace hB := hB.st0 hb2 | replace hB := hB.st1 hb2 | replace hB := hB.std hb2 | replace hB := hB.std1 hb2 | replace hB := hB.st2 hb2 | replace hB := hB.std2 hb2 | replace hB := hB.st3 hb2); have kB := hB.facts; (first | replace hN0 := hN0.st0 hb2 | replace hN0 := hN0.st1 hb2 | replace hN0 := hN0.std hb2 | replace hN0 := hN0.std1 hb2 | replace hN0 := hN0.st2 hb2 | replace hN0 := hN0.std2 hb2 | replace hN0 := hN0.st3 hb2); (first | replace hD0 := hD0.st0 hb2 | replace hD0 := hD0.st1 hb2 | replace hD0 := hD0.std hb2 | replace hD0 := hD0.std1 hb2 | replace hD0 := hD0.st2 hb2 | replace hD0 := hD0.std2 hb2 | replace hD0 := hD0.st3 hb2); (first | replace hL0 := hL0.st0 hb2 | replace hL0 := hL0.st1 hb2 | replace hL0 := hL0.std hb2 | replace hL0 := hL0.std1 hb2 | replace hL0 := hL0.st2 hb2 | replace hL0 := hL0.std2 hb2 | replace hL0 := hL0.st3 hb2)) | (go_at_call 44; refine (mfirst_any [tornE N D, cwE l] _ _ _ (by simp [maxLen]) (Rd.ints2 (by simp) (by go_simp) (by go_simp))).mono ?_; rintro e w3 ⟨rfl, hb3⟩; (first | replace hB := hB.st0 hb3 | replace hB := hB.st1 hb3 | replace hB := hB.std hb3 | replace hB := hB.std1 hb3 | replace hB := hB.st2 hb3 | replace hB := hB.std2 hb3 | replace hB := hB.st3 hb3); have kB := hB.facts; (first | replace hN0 := hN0.st0 hb3 | replace hN0 := hN0.st1 hb3 | replace hN0 := hN0.std hb3 | replace hN0 := hN0.std1 hb3 | replace hN0 := hN0.st2 hb3 | replace hN0 := hN0.std2 hb3 | replace hN0 := hN0.st3 hb3); (first | replace hD0 := hD0.st0 hb3 | replace hD0 := hD0.st1 hb3 | replace hD0 := hD0.std hb3 | replace hD0 := hD0.std1 hb3 | replace hD0 := hD0.st2 hb3 | replace hD0 := hD0.std2 hb3 | replace hD0 := hD0.st3 hb3); (first | replace hL0 := hL0.st0 hb3 | replace hL0 := hL0.st1 hb3 | replace hL0 := hL0.std hb3 | replace hL0 := hL0.std1 hb3 | replace hL0 := hL0.st2 hb3 | replace hL0 := hL0.std2 hb3 | replace hL0 := hL0.st3 hb3)))
    go_ret
    exact ⟨ret_int (by rw [HS.out]), by (repeat (first | exact bl_refl | assumption | (apply bl_then; assumption) | refine bl_alloc ?_ _ | refine bl_drew ?_ | refine bl_drewN ?_ _))⟩

/-- the net restored -/
def restL (N D : List Bar) (l : List Knot) : List Bar := if provedE N D l = 0 then srtB (wout N D ++ passP l) else []
theorem proved_zero {N D : List Bar} {l : List Knot} (h : provedE N D l = 0) : TornOk N D ∧ cwE l = 0 := by
  unfold provedE at h
  split at h
  · rename_i h1
    obtain ⟨z1, z2⟩ := firstI_zero h1
    exact ⟨torn_ok z1, z2⟩
  · rename_i h1; exact absurd h h1
theorem cwE_ok {l : List Knot} (h : cwE l = 0) : adjAll l = true ∧ ∀ k ∈ l, nearK k := by
  unfold cwE at h
  split at h
  · cases h
  · split at h
    · rename_i h1
      split at h
      · rename_i h2; exact ⟨h2, fun k hk => (knotsE_near h1 k hk).1⟩
      · cases h
    · rename_i h1; exact absurd h h1
end Go.Proofs.YtpompeancmonbaaGreat

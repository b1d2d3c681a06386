/- Walks proved to be runs, and the length of their twine, of the program, walked. Conditions: slices that read as lists. -/
import Derived.Test.YthcnngoaijgnoaaGreatK07
import Derived.Test.YthcnngoaijgnoaaGreatK06
import Derived.Test.YthcnngoaijgnoaaGreatK04
import Derived.Laws.CopyRow
namespace Go.Proofs.YthcnngoaijgnoaaGreat
open Go.RowKit Go.ChangeMaps
set_option maxHeartbeats 4000000
set_option maxRecDepth 100000

def twineE (l : List Knot) (a b : Int) : Int := firstI [cwE l, withinI a 0 100000, withinI b 0 100000]
def twineR (l : List Knot) (a b : Int) : Int := if twineE l a b = 0 then (max 0 ((l.length : Int) - 1)) * a + l.length * b else 0
theorem firstI_zero3 {a b c : Int} (h : firstI [a, b, c] = 0) : a = 0 ∧ b = 0 ∧ c = 0 := by
  unfold firstI at h
  split at h
  · rename_i h1
    have := firstI_zero (a := b) (b := c) h
    exact ⟨h1, this.1, this.2⟩
  · rename_i h1; exact absurd h h1
theorem within_zero {n lo hi : Int} (h : withinI n lo hi = 0) : lo ≤ n ∧ n ≤ hi := by
  unfold withinI whenI at h
  split at h
  · cases h
  · rename_i h1
    simp only [Bool.or_eq_true, decide_eq_true_eq] at h1
    omega
theorem cwE_len {l : List Knot} (h : cwE l = 0) : l.length ≤ 4097 := by
  unfold cwE at h
  split at h
  · cases h
  · omega
theorem ptwine_any {v : Value} (l : List Knot) (a b : Int) (w : World) (h : SlK w v l) : Calls Tryz.prog 64 #[v, .int .i64 a, .int .i64 b] w (RV w (.tuple #[.int .i64 (twineR l a b), .int .i64 (twineE l a b)])) := by
  by_cases hE0 : twineE l a b = 0
  · have hE' : (firstI [cwE l, withinI a 0 100000, withinI b 0 100000] != 0) = false := by
      have : firstI [cwE l, withinI a 0 100000, withinI b 0 100000] = 0 := hE0
      rw [this]; rfl
    obtain ⟨z1, z2, z3⟩ := firstI_zero3 hE0
    have hl := cwE_len z1
    obtain ⟨a1, a2⟩ := within_zero z2
    obtain ⟨b1, b2⟩ := within_zero z3
    obtain ⟨m, hm⟩ : ∃ m : Nat, l.length - 1 = m := ⟨_, rfl⟩
    have hmx : max (0 : Int) ((l.length : Int) - 1) = (m : Int) := by omega
    have HS : Hid (twineR l a b = (m : Int) * a + l.length * b ∧ twineE l a b = 0) := by unfold Hid twineR; rw [if_pos hE0, hmx]; exact ⟨rfl, hE0⟩
    have p1 : 0 ≤ (m : Int) * a := Int.mul_nonneg (by omega) a1
    have p2 : (m : Int) * a ≤ 4097 * 100000 := Int.mul_le_mul (by omega) a2 a1 (by omega)
    have p3 : 0 ≤ (l.length : Int) * b := Int.mul_nonneg (by omega) b1
    have p4 : (l.length : Int) * b ≤ 4097 * 100000 := Int.mul_le_mul (by omega) b2 b1 (by omega)
    clear hE0 z1 z2 z3
    obtain ⟨A, c, rfl, hlc, hcm, hr⟩ := h
    have h : SlK w (.slice A l.length c) l := ⟨A, c, rfl, hlc, hcm, hr⟩
    go_enter Tryz.func64, Tryz.ntmps64
    go_wp2_with (first | (go_at_call 113; refine (checkWalk_any l _ h).mono ?_; rintro e w1 ⟨rfl, hb1⟩) | (go_at_call 96; refine (mwithin_any _ _ _ _).mono ?_; rintro e w2 ⟨rfl, hb2⟩) | (go_at_call 79; refine (mfirst_any [cwE l, withinI a 0 100000, withinI b 0 100000] _ _ _ (by simp [maxLen]) (Rd.ints3 (by simp) (by go_simp) (by go_simp) (by go_simp))).mono ?_; rintro e w3 ⟨rfl, hb3⟩))
    go_ret2
    exact ⟨by rw [HS.out.1, HS.out.2]; rfl, by (repeat (first | exact bl_refl | assumption | (apply bl_then; assumption) | refine bl_alloc ?_ _ | refine bl_drew ?_ | refine bl_drewN ?_ _))⟩
  · have hE' : (firstI [cwE l, withinI a 0 100000, withinI b 0 100000] != 0) = true := by
      have : firstI [cwE l, withinI a 0 100000, withinI b 0 100000] ≠ 0 := hE0
      simpa using this
    have HS : Hid (twineR l a b = 0) := by unfold Hid twineR; rw [if_neg hE0]
    clear hE0
    go_enter Tryz.func64, Tryz.ntmps64
    go_wp2_with (first | (go_at_call 113; refine (checkWalk_any l _ h).mono ?_; rintro e w1 ⟨rfl, hb1⟩) | (go_at_call 96; refine (mwithin_any _ _ _ _).mono ?_; rintro e w2 ⟨rfl, hb2⟩) | (go_at_call 79; refine (mfirst_any [cwE l, withinI a 0 100000, withinI b 0 100000] _ _ _ (by simp [maxLen]) (Rd.ints3 (by simp) (by go_simp) (by go_simp) (by go_simp))).mono ?_; rintro e w3 ⟨rfl, hb3⟩))
    go_ret2
    exact ⟨by rw [HS.out]; rfl, by (repeat (first | exact bl_refl | assumption | (apply bl_then; assumption) | refine bl_alloc ?_ _ | refine bl_drew ?_ | refine bl_drewN ?_ _))⟩

/-! ## a walk as a run -/
def startsB (D : List Bar) (l : List Knot) : Bool := match l with
  | [] => false
  | k :: _ => isRunP D (walkL D k) && decide (walkL D k = l)
def oneB (D : List Bar) (l : List Knot) : Bool := match l with
  | [] => false
  | k :: _ => cnt (legsAt D k) == 1
def provedE (N D : List Bar) (l : List Knot) : Int :=
  if firstI [tornE N D, cwE l] = 0 then if rdyB D then if oneB D l then whenI (!startsB D l) 21 else 21 else 18 else firstI [tornE N D, cwE l]
theorem proved_any {v u x : Value} (N D : List Bar) (l : List Knot) (w : World) (hN : SlB w v N) (hD : SlB w u D) (hl : SlK w x l) : Calls Tryz.prog 112 #[.agg #[v, u], x] w (RV w (.int .i64 (provedE N D l))) := by
  have hB := Blk.new w 32 #[v, u]
  have hN0 := hN.alloc (.cells #[v, u] 32)
  have hD0 := hD.alloc (.cells #[v, u] 32)
  have hL0 := hl.alloc (.cells #[v, u] 32)
  by_cases hE0 : firstI [tornE N D, cwE l] = 0
  · have hE' : (firstI [tornE N D, cwE l] != 0) = false := by rw [hE0]; rfl
    have HS : Hid (provedE N D l = if rdyB D then if oneB D l then whenI (!startsB D l) 21 else 21 else 18) := by unfold Hid provedE; rw [if_pos hE0]
    obtain ⟨z1, z2⟩ := firstI_zero hE0
    have hok := torn_ok z1
    have hl' := cwE_len z2
    clear hE0 z1 z2
    by_cases hR : rdyB D = true
    · have HS2 : Hid (provedE N D l = if oneB D l then whenI (!startsB D l) 21 else 21) := by unfold Hid; rw [HS.out, if_pos hR]
      have hl0 := hl
      obtain ⟨A, c, rfl, hlc, hcm, hr⟩ := hl
      by_cases hz : l.length = 0
      · have hzB : ((l.length : Int) == 0) = true := by simp [hz]
        have HS3 : Hid (provedE N D l = 21) := by
          obtain rfl : l = [] := List.eq_nil_of_length_eq_zero hz
          exact HS2.out
        clear HS HS2 hz
        go_enter Tryz.func112, Tryz.ntmps112
        go_wp2_with (first | (go_at_call 57; refine (mtorn_any N D _ hN0 hD0).mono ?_; rintro e w1 ⟨rfl, hb1⟩; (first | replace hB := hB.st0 hb1 | replace hB := hB.st1 hb1 | replace hB := hB.std hb1 | replace hB := hB.std1 hb1 | replace hB := hB.st2 hb1 | replace hB := hB.std2 hb1 | replace hB := hB.st3 hb1); have kB := hB.facts; (first | replace hN0 := hN0.st0 hb1 | replace hN0 := hN0.st1 hb1 | replace hN0 := hN0.std hb1 | replace hN0 := hN0.std1 hb1 | replace hN0 := hN0.st2 hb1 | replace hN0 := hN0.std2 hb1 | replace hN0 := hN0.st3 hb1); (first | replace hD0 := hD0.st0 hb1 | replace hD0 := hD0.st1 hb1 | replace hD0 := hD0.std hb1 | replace hD0 := hD0.std1 hb1 | replace hD0 := hD0.st2 hb1 | replace hD0 := hD0.std2 hb1 | replace hD0 := hD0.st3 hb1); (first | replace hL0 := hL0.st0 hb1 | replace hL0 := hL0.st1 hb1 | replace hL0 := hL0.std hb1 | replace hL0 := hL0.std1 hb1 | replace hL0 := hL0.st2 hb1 | replace hL0 := hL0.std2 hb1 | replace hL0 := hL0.st3 hb1)) | (go_at_call 113; refine (checkWalk_any l _ hL0).mono ?_; rintro e w2 ⟨rfl, hb2⟩; (first | replace hB := hB.st0 hb2 | replace hB := hB.st1 hb2 | replace hB := hB.std hb2 | replace hB := hB.std1 hb2 | replace hB := hB.st2 hb2 | replace hB := hB.std2 hb2 | replace hB := hB.st3 hb2); have kB := hB.facts; (first | replace hN0 := hN0.st0 hb2 | replace hN0 := hN0.st1 hb2 | replace hN0 := hN0.std hb2 | replace hN0 := hN0.std1 hb2 | replace hN0 := hN0.st2 hb2 | replace hN0 := hN0.std2 hb2 | replace hN0 := hN0.st3 hb2); (first | replace hD0 := hD0.st0 hb2 | replace hD0 := hD0.st1 hb2 | replace hD0 := hD0.std hb2 | replace hD0 := hD0.std1 hb2 | replace hD0 := hD0.st2 hb2 | replace hD0 := hD0.std2 hb2 | replace hD0 := hD0.st3 hb2); (first | replace hL0 := hL0.st0 hb2 | replace hL0 := hL0.st1 hb2 | replace hL0 := hL0.std hb2 | replace hL0 := hL0.std1 hb2 | replace hL0 := hL0.st2 hb2 | replace hL0 := hL0.std2 hb2 | replace hL0 := hL0.st3 hb2)) | (go_at_call 79; refine (mfirst_any [tornE N D, cwE l] _ _ _ (by simp [maxLen]) (Rd.ints2 (by simp) (by go_simp) (by go_simp))).mono ?_; rintro e w3 ⟨rfl, hb3⟩; (first | replace hB := hB.st0 hb3 | replace hB := hB.st1 hb3 | replace hB := hB.std hb3 | replace hB := hB.std1 hb3 | replace hB := hB.st2 hb3 | replace hB := hB.std2 hb3 | replace hB := hB.st3 hb3); have kB := hB.facts; (first | replace hN0 := hN0.st0 hb3 | replace hN0 := hN0.st1 hb3 | replace hN0 := hN0.std hb3 | replace hN0 := hN0.std1 hb3 | replace hN0 := hN0.st2 hb3 | replace hN0 := hN0.std2 hb3 | replace hN0 := hN0.st3 hb3); (first | replace hD0 := hD0.st0 hb3 | replace hD0 := hD0.st1 hb3 | replace hD0 := hD0.std hb3 | replace hD0 := hD0.std1 hb3 | replace hD0 := hD0.st2 hb3 | replace hD0 := hD0.std2 hb3 | replace hD0 := hD0.st3 hb3); (first | replace hL0 := hL0.st0 hb3 | replace hL0 := hL0.st1 hb3 | replace hL0 := hL0.std hb3 | replace hL0 := hL0.std1 hb3 | replace hL0 := hL0.st2 hb3 | replace hL0 := hL0.std2 hb3 | replace hL0 := hL0.st3 hb3)) |
          (go_at_call 77; refine (newHole_any D _ hD0 hok.dam.nodup hok.dam.ok).mono ?_; rintro e w4 ⟨h, rb, rk, rfl, _, _, _, H4, hb4⟩) | (go_at_call 78; refine (ready_any _ _ _ D _ H4 hok.dam.ok hok.lens.2).mono ?_; rintro e w5 ⟨rfl, hb5⟩; simp only [hR]))
        refine wp_region_ords [0, 1, 2, 3, 4, 5, 6, 7, 8, 9, 10, 11] [] [12, 13, 14] (by kernel_rfl) (by kernel_rfl) (fun d _ _ _ _ h => by cases d <;> exact h) ?_
        simp only [List.map_cons, List.map_nil, List.getD_cons_zero, List.getD_cons_succ]
        repeat (go_big_quiet_step (fail))
        refine wpQuiet_nil ?_
        refine wpMid_nil ?_
        go_wp2
        go_ret
        exact ⟨ret_int (by rw [HS3.out]), by (repeat (first | exact bl_refl | assumption | (apply bl_then; assumption) | refine bl_alloc ?_ _ | refine bl_drew ?_ | refine bl_drewN ?_ _))⟩
      · have hzB : ((l.length : Int) == 0) = false := by simpa using hz
        have hlt : 0 < l.length := by omega
        obtain ⟨⟨x, y⟩, hxy⟩ : ∃ k, l[0] = k := ⟨_, rfl⟩
        obtain ⟨⟨l0, l1, l2, l3⟩, hL⟩ : ∃ L, legsAt D (x, y) = L := ⟨_, rfl⟩
        obtain ⟨q, hq⟩ : ∃ q, (((cnt (l0, l1, l2, l3) : Nat) : Int) != 1) = q := ⟨_, rfl⟩
        have hqc : (cnt (l0, l1, l2, l3) == 1) = !q := by
          rw [← hq, Bool.eq_iff_iff]
          simp
          omega
        have HS3 : Hid (provedE N D l = if !q then whenI (!(isRunP D (walkL D (x, y)) && decide (walkL D (x, y) = l))) 21 else 21) := by
          unfold Hid
          rw [HS2.out, ← hqc, ← hL]
          cases l with
          | nil => simp at hlt
          | cons k r =>
            obtain rfl : k = (x, y) := hxy
            rfl
        obtain ⟨b, off, rfl, hb, _, _⟩ := hr.knot hlt
        have hcell : ∀ W, SlK W (.slice (some ⟨b, off, none⟩) l.length c) l → W.cell? ⟨b, off, none⟩ = some (.int .i64 x) ∧ W.cell? ⟨b, off + 1, none⟩ = some (.int .i64 y) ∧ b < W.heap.size := by
          intro W hW
          obtain ⟨A', c', he, _, _, hr'⟩ := hW
          obtain ⟨b', off', rfl, hb', e0, e1⟩ := hr'.knot hlt
          rw [hxy] at e0 e1
          obtain ⟨rfl, rfl⟩ : b = b' ∧ off = off' := by simpa using (Value.slice.inj he).1
          exact ⟨by simpa using e0, by simpa using e1, hb'⟩
        have hlk := fun h rb rk W (hW : HoleAt W h rb rk D) => hole_look hW x y
        rw [hL] at hlk
        have hm1 : q = false → cnt (legsAt D (x, y)) = 1 := by intro h0; rw [hL]; simpa [h0] using hqc
        clear HS HS2 hz hqc hL hr hl0 hxy
        cases q
        · replace hm1 := hm1 rfl
          obtain ⟨g, hg⟩ : ∃ g, isRunP D (walkL D (x, y)) = g := ⟨_, rfl⟩
          obtain ⟨g2, hg2⟩ : ∃ g2, decide (walkL D (x, y) = l) = g2 := ⟨_, rfl⟩
          rw [hg, hg2] at HS3
          have hwk := fun h rb rk W (hW : HoleAt W h rb rk D) => walk_any h rb rk D x y W hW hok.dam.ok hok.lens.2 hm1
          rw [hg] at hwk
          have heq := fun v W (h1 : SlK W v (walkL D (x, y))) (h2 : SlK W (.slice (some ⟨b, off, none⟩) l.length c) l) => equalK_any (walkL D (x, y)) l W h1 h2
          rw [hg2] at heq
          clear hg hg2
          go_enter Tryz.func112, Tryz.ntmps112
          go_wp2_with (first | (go_at_call 57; refine (mtorn_any N D _ hN0 hD0).mono ?_; rintro e w1 ⟨rfl, hb1⟩; (first | replace hB := hB.st0 hb1 | replace hB := hB.st1 hb1 | replace hB := hB.std hb1 | replace hB := hB.std1 hb1 | replace hB := hB.st2 hb1 | replace hB := hB.std2 hb1 | replace hB := hB.st3 hb1); have kB := hB.facts; (first | replace hN0 := hN0.st0 hb1 | replace hN0 := hN0.st1 hb1 | replace hN0 := hN0.std hb1 | replace hN0 := hN0.std1 hb1 | replace hN0 := hN0.st2 hb1 | replace hN0 := hN0.std2 hb1 | replace hN0 := hN0.st3 hb1); (first | replace hD0 := hD0.st0 hb1 | replace hD0 := hD0.st1 hb1 | replace hD0 := hD0.std hb1 | replace hD0 := hD0.std1 hb1 | replace hD0 := hD0.st2 hb1 | replace hD0 := hD0.std2 hb1 | replace hD0 := hD0.st3 hb1); (first | replace hL0 := hL0.st0 hb1 | replace hL0 := hL0.st1 hb1 | replace hL0 := hL0.std hb1 | replace hL0 := hL0.std1 hb1 | replace hL0 := hL0.st2 hb1 | replace hL0 := hL0.std2 hb1 | replace hL0 := hL0.st3 hb1)) | (go_at_call 113; refine (checkWalk_any l _ hL0).mono ?_; rintro e w2 ⟨rfl, hb2⟩; (first | replace hB := hB.st0 hb2 | replace hB := hB.st1 hb2 | replace hB := hB.std hb2 | replace hB := hB.std1 hb2 | replace hB := hB.st2 hb2 | replace hB := hB.std2 hb2 | replace hB := hB.st3 hb2); have kB := hB.facts; (first | replace hN0 := hN0.st0 hb2 | replace hN0 := hN0.st1 hb2 | replace hN0 := hN0.std hb2 | replace hN0 := hN0.std1 hb2 | replace hN0 := hN0.st2 hb2 | replace hN0 := hN0.std2 hb2 | replace hN0 := hN0.st3 hb2); (first | replace hD0 := hD0.st0 hb2 | replace hD0 := hD0.st1 hb2 | replace hD0 := hD0.std hb2 | replace hD0 := hD0.std1 hb2 | replace hD0 := hD0.st2 hb2 | replace hD0 := hD0.std2 hb2 | replace hD0 := hD0.st3 hb2); (first | replace hL0 := hL0.st0 hb2 | replace hL0 := hL0.st1 hb2 | replace hL0 := hL0.std hb2 | replace hL0 := hL0.std1 hb2 | replace hL0 := hL0.st2 hb2 | replace hL0 := hL0.std2 hb2 | replace hL0 := hL0.st3 hb2)) | (go_at_call 79; refine (mfirst_any [tornE N D, cwE l] _ _ _ (by simp [maxLen]) (Rd.ints2 (by simp) (by go_simp) (by go_simp))).mono ?_; rintro e w3 ⟨rfl, hb3⟩; (first | replace hB := hB.st0 hb3 | replace hB := hB.st1 hb3 | replace hB := hB.std hb3 | replace hB := hB.std1 hb3 | replace hB := hB.st2 hb3 | replace hB := hB.std2 hb3 | replace hB := hB.st3 hb3); have kB := hB.facts; (first | replace hN0 := hN0.st0 hb3 | replace hN0 := hN0.st1 hb3 | replace hN0 := hN0.std hb3 | replace hN0 := hN0.std1 hb3 | replace hN0 := hN0.st2 hb3 | replace hN0 := hN0.std2 hb3 | replace hN0 := hN0.st3 hb3); (first | replace hD0 := hD0.st0 hb3 | replace hD0 := hD0.st1 hb3 | replace hD0 := hD0.std hb3 | replace hD0 := hD0.std1 hb3 | replace hD0 := hD0.st2 hb3 | replace hD0 := hD0.std2 hb3 | replace hD0 := hD0.st3 hb3); (first | replace hL0 := hL0.st0 hb3 | replace hL0 := hL0.st1 hb3 | replace hL0 := hL0.std hb3 | replace hL0 := hL0.std1 hb3 | replace hL0 := hL0.st2 hb3 | replace hL0 := hL0.std2 hb3 | replace hL0 := hL0.st3 hb3)) |
            (go_at_call 77; refine (newHole_any D _ hD0 hok.dam.nodup hok.dam.ok).mono ?_; rintro e w4 ⟨h, rb, rk, rfl, _, _, _, H4, hb4⟩; replace hL0 := hL0.st0 hb4) | (go_at_call 78; refine (ready_any _ _ _ D _ H4 hok.dam.ok hok.lens.2).mono ?_; rintro e w5 ⟨rfl, hb5⟩; simp only [hR]; replace hL0 := hL0.st0 hb5; have H5 := H4.below hb5))
          have f5 := H5.blk.facts
          have hlk5 := fun g : Bel w5.heap.size w5 => hlk _ _ _ _ (H5.below g.below)
          obtain ⟨c0, c1, c2⟩ := hcell _ hL0
          refine wp_region_ords [0, 1, 2, 3, 4, 5, 6, 7, 8, 9, 10, 11] [] [12, 13, 14] (by kernel_rfl) (by kernel_rfl) (fun d _ _ _ _ h => by cases d <;> exact h) ?_
          simp only [List.map_cons, List.map_nil, List.getD_cons_zero, List.getD_cons_succ]
          repeat (go_big_quiet_step (fail))
          refine wpQuiet_nil ?_
          refine wpMid_nil ?_
          go_wp2_with (go_at_call 81; refine (count_any l0 l1 l2 l3 _).mono ?_; rintro e w6 ⟨rfl, hb6⟩; replace hL0 := hL0.std hb6; have H6 := H5.below (bl_d hb6))
          obtain ⟨d0, d1, d2⟩ := hcell _ hL0
          cases g
          · go_wp2_with (first | (go_at_call 82; refine (hwk _ _ _ _ H6).mono ?_; rintro e w7 ⟨v7, rfl, hown7, hb7⟩; replace hL0 := hL0.st0 hb7) | (go_at_call 83; refine (mwhen_any _ _ _).mono ?_; rintro e w9 ⟨rfl, hb9⟩))
            go_ret
            exact ⟨ret_int (by rw [HS3.out]; rfl), by (repeat (first | exact bl_refl | assumption | (apply bl_then; assumption) | refine bl_alloc ?_ _ | refine bl_drew ?_ | refine bl_drewN ?_ _))⟩
          · go_wp2_with (first | (go_at_call 82; refine (hwk _ _ _ _ H6).mono ?_; rintro e w7 ⟨v7, rfl, hown7, hb7⟩; replace hL0 := hL0.st0 hb7) | (go_at_call 149; refine (heq _ _ (hown7.rd kc_len) hL0).mono ?_; rintro e w8 ⟨rfl, hb8⟩) | (go_at_call 83; refine (mwhen_any _ _ _).mono ?_; rintro e w9 ⟨rfl, hb9⟩))
            go_ret
            exact ⟨ret_int (by rw [HS3.out]; rfl), by (repeat (first | exact bl_refl | assumption | (apply bl_then; assumption) | refine bl_alloc ?_ _ | refine bl_drew ?_ | refine bl_drewN ?_ _))⟩
        · go_enter Tryz.func112, Tryz.ntmps112
          go_wp2_with (first | (go_at_call 57; refine (mtorn_any N D _ hN0 hD0).mono ?_; rintro e w1 ⟨rfl, hb1⟩; (first | replace hB := hB.st0 hb1 | replace hB := hB.st1 hb1 | replace hB := hB.std hb1 | replace hB := hB.std1 hb1 | replace hB := hB.st2 hb1 | replace hB := hB.std2 hb1 | replace hB := hB.st3 hb1); have kB := hB.facts; (first | replace hN0 := hN0.st0 hb1 | replace hN0 := hN0.st1 hb1 | replace hN0 := hN0.std hb1 | replace hN0 := hN0.std1 hb1 | replace hN0 := hN0.st2 hb1 | replace hN0 := hN0.std2 hb1 | replace hN0 := hN0.st3 hb1); (first | replace hD0 := hD0.st0 hb1 | replace hD0 := hD0.st1 hb1 | replace hD0 := hD0.std hb1 | replace hD0 := hD0.std1 hb1 | replace hD0 := hD0.st2 hb1 | replace hD0 := hD0.std2 hb1 | replace hD0 := hD0.st3 hb1); (first | replace hL0 := hL0.st0 hb1 | replace hL0 := hL0.st1 hb1 | replace hL0 := hL0.std hb1 | replace hL0 := hL0.std1 hb1 | replace hL0 := hL0.st2 hb1 | replace hL0 := hL0.std2 hb1 | replace hL0 := hL0.st3 hb1)) | (go_at_call 113; refine (checkWalk_any l _ hL0).mono ?_; rintro e w2 ⟨rfl, hb2⟩; (first | replace hB := hB.st0 hb2 | replace hB := hB.st1 hb2 | replace hB := hB.std hb2 | replace hB := hB.std1 hb2 | replace hB := hB.st2 hb2 | replace hB := hB.std2 hb2 | replace hB := hB.st3 hb2); have kB := hB.facts; (first | replace hN0 := hN0.st0 hb2 | replace hN0 := hN0.st1 hb2 | replace hN0 := hN0.std hb2 | replace hN0 := hN0.std1 hb2 | replace hN0 := hN0.st2 hb2 | replace hN0 := hN0.std2 hb2 | replace hN0 := hN0.st3 hb2); (first | replace hD0 := hD0.st0 hb2 | replace hD0 := hD0.st1 hb2 | replace hD0 := hD0.std hb2 | replace hD0 := hD0.std1 hb2 | replace hD0 := hD0.st2 hb2 | replace hD0 := hD0.std2 hb2 | replace hD0 := hD0.st3 hb2); (first | replace hL0 := hL0.st0 hb2 | replace hL0 := hL0.st1 hb2 | replace hL0 := hL0.std hb2 | replace hL0 := hL0.std1 hb2 | replace hL0 := hL0.st2 hb2 | replace hL0 := hL0.std2 hb2 | replace hL0 := hL0.st3 hb2)) | (go_at_call 79; refine (mfirst_any [tornE N D, cwE l] _ _ _ (by simp [maxLen]) (Rd.ints2 (by simp) (by go_simp) (by go_simp))).mono ?_; rintro e w3 ⟨rfl, hb3⟩; (first | replace hB := hB.st0 hb3 | replace hB := hB.st1 hb3 | replace hB := hB.std hb3 | replace hB := hB.std1 hb3 | replace hB := hB.st2 hb3 | replace hB := hB.std2 hb3 | replace hB := hB.st3 hb3); have kB := hB.facts; (first | replace hN0 := hN0.st0 hb3 | replace hN0 := hN0.st1 hb3 | replace hN0 := hN0.std hb3 | replace hN0 := hN0.std1 hb3 | replace hN0 := hN0.st2 hb3 | replace hN0 := hN0.std2 hb3 | replace hN0 := hN0.st3 hb3); (first | replace hD0 := hD0.st0 hb3 | replace hD0 := hD0.st1 hb3 | replace hD0 := hD0.std hb3 | replace hD0 := hD0.std1 hb3 | replace hD0 := hD0.st2 hb3 | replace hD0 := hD0.std2 hb3 | replace hD0 := hD0.st3 hb3); (first | replace hL0 := hL0.st0 hb3 | replace hL0 := hL0.st1 hb3 | replace hL0 := hL0.std hb3 | replace hL0 := hL0.std1 hb3 | replace hL0 := hL0.st2 hb3 | replace hL0 := hL0.std2 hb3 | replace hL0 := hL0.st3 hb3)) |
            (go_at_call 77; refine (newHole_any D _ hD0 hok.dam.nodup hok.dam.ok).mono ?_; rintro e w4 ⟨h, rb, rk, rfl, _, _, _, H4, hb4⟩; replace hL0 := hL0.st0 hb4) | (go_at_call 78; refine (ready_any _ _ _ D _ H4 hok.dam.ok hok.lens.2).mono ?_; rintro e w5 ⟨rfl, hb5⟩; simp only [hR]; replace hL0 := hL0.st0 hb5; have H5 := H4.below hb5))
          have f5 := H5.blk.facts
          have hlk5 := fun g : Bel w5.heap.size w5 => hlk _ _ _ _ (H5.below g.below)
          obtain ⟨c0, c1, c2⟩ := hcell _ hL0
          refine wp_region_ords [0, 1, 2, 3, 4, 5, 6, 7, 8, 9, 10, 11] [] [12, 13, 14] (by kernel_rfl) (by kernel_rfl) (fun d _ _ _ _ h => by cases d <;> exact h) ?_
          simp only [List.map_cons, List.map_nil, List.getD_cons_zero, List.getD_cons_succ]
          repeat (go_big_quiet_step (fail))
          refine wpQuiet_nil ?_
          refine wpMid_nil ?_
          go_wp2_with (go_at_call 81; refine (count_any l0 l1 l2 l3 _).mono ?_; rintro e w6 ⟨rfl, hb6⟩)
          go_ret
          exact ⟨ret_int (by rw [HS3.out]; rfl), by (repeat (first | exact bl_refl | assumption | (apply bl_then; assumption) | refine bl_alloc ?_ _ | refine bl_drew ?_ | refine bl_drewN ?_ _))⟩
    · have hR' : rdyB D = false := by simpa using hR
      have HS2 : Hid (provedE N D l = 18) := by unfold Hid; rw [HS.out, if_neg hR]
      clear HS hR
      go_enter Tryz.func112, Tryz.ntmps112
      go_wp2_with (first | (go_at_call 57; refine (mtorn_any N D _ hN0 hD0).mono ?_; rintro e w1 ⟨rfl, hb1⟩; (first | replace hB := hB.st0 hb1 | replace hB := hB.st1 hb1 | replace hB := hB.std hb1 | replace hB := hB.std1 hb1 | replace hB := hB.st2 hb1 | replace hB := hB.std2 hb1 | replace hB := hB.st3 hb1); have kB := hB.facts; (first | replace hN0 := hN0.st0 hb1 | replace hN0 := hN0.st1 hb1 | replace hN0 := hN0.std hb1 | replace hN0 := hN0.std1 hb1 | replace hN0 := hN0.st2 hb1 | replace hN0 := hN0.std2 hb1 | replace hN0 := hN0.st3 hb1); (first | replace hD0 := hD0.st0 hb1 | replace hD0 := hD0.st1 hb1 | replace hD0 := hD0.std hb1 | replace hD0 := hD0.std1 hb1 | replace hD0 := hD0.st2 hb1 | replace hD0 := hD0.std2 hb1 | replace hD0 := hD0.st3 hb1); (first | replace hL0 := hL0.st0 hb1 | replace hL0 := hL0.st1 hb1 | replace hL0 := hL0.std hb1 | replace hL0 := hL0.std1 hb1 | replace hL0 := hL0.st2 hb1 | replace hL0 := hL0.std2 hb1 | replace hL0 := hL0.st3 hb1)) | (go_at_call 113; refine (checkWalk_any l _ hL0).mono ?_; rintro e w2 ⟨rfl, hb2⟩; (first | replace hB := hB.st0 hb2 | replace hB := hB.st1 hb2 | replace hB := hB.std hb2 | replace hB := hB.std1 hb2 | replace hB := hB.st2 hb2 | replace hB := hB.std2 hb2 | replace hB := hB.st3 hb2); have kB := hB.facts; (first | replace hN0 := hN0.st0 hb2 | replace hN0 := hN0.st1 hb2 | replace hN0 := hN0.std hb2 | replace hN0 := hN0.std1 hb2 | replace hN0 := hN0.st2 hb2 | replace hN0 := hN0.std2 hb2 | replace hN0 := hN0.st3 hb2); (first | replace hD0 := hD0.st0 hb2 | replace hD0 := hD0.st1 hb2 | replace hD0 := hD0.std hb2 | replace hD0 := hD0.std1 hb2 | replace hD0 := hD0.st2 hb2 | replace hD0 := hD0.std2 hb2 | replace hD0 := hD0.st3 hb2); (first | replace hL0 := hL0.st0 hb2 | replace hL0 := hL0.st1 hb2 | replace hL0 := hL0.std hb2 | replace hL0 := hL0.std1 hb2 | replace hL0 := hL0.st2 hb2 | replace hL0 := hL0.std2 hb2 | replace hL0 := hL0.st3 hb2)) | (go_at_call 79; refine (mfirst_any [tornE N D, cwE l] _ _ _ (by simp [maxLen]) (Rd.ints2 (by simp) (by go_simp) (by go_simp))).mono ?_; rintro e w3 ⟨rfl, hb3⟩; (first | replace hB := hB.st0 hb3 | replace hB := hB.st1 hb3 | replace hB := hB.std hb3 | replace hB := hB.std1 hb3 | replace hB := hB.st2 hb3 | replace hB := hB.std2 hb3 | replace hB := hB.st3 hb3); have kB := hB.facts; (first | replace hN0 := hN0.st0 hb3 | replace hN0 := hN0.st1 hb3 | replace hN0 := hN0.std hb3 | replace hN0 := hN0.std1 hb3 | replace hN0 := hN0.st2 hb3 | replace hN0 := hN0.std2 hb3 | replace hN0 := hN0.st3 hb3); (first | replace hD0 := hD0.st0 hb3 | replace hD0 := hD0.st1 hb3 | replace hD0 := hD0.std hb3 | replace hD0 := hD0.std1 hb3 | replace hD0 := hD0.st2 hb3 | replace hD0 := hD0.std2 hb3 | replace hD0 := hD0.st3 hb3); (first | replace hL0 := hL0.st0 hb3 | replace hL0 := hL0.st1 hb3 | replace hL0 := hL0.std hb3 | replace hL0 := hL0.std1 hb3 | replace hL0 := hL0.st2 hb3 | replace hL0 := hL0.std2 hb3 | replace hL0 := hL0.st3 hb3)) |
        (go_at_call 77; refine (newHole_any D _ hD0 hok.dam.nodup hok.dam.ok).mono ?_; rintro e w4 ⟨h, rb, rk, rfl, _, _, _, H4, hb4⟩) | (go_at_call 78; refine (ready_any _ _ _ D _ H4 hok.dam.ok hok.lens.2).mono ?_; rintro e w5 ⟨rfl, hb5⟩; simp only [hR']))
      go_ret
      exact ⟨ret_int (by rw [HS2.out]), by (repeat (first | exact bl_refl | assumption | (apply bl_then; assumption) | refine bl_alloc ?_ _ | refine bl_drew ?_ | refine bl_drewN ?_ _))⟩
  · have hE' : (firstI [tornE N D, cwE l] != 0) = true := by simpa using hE0
    have HS : Hid (provedE N D l = firstI [tornE N D, cwE l]) := by unfold Hid provedE; rw [if_neg hE0]
    clear hE0
    go_enter Tryz.func112, Tryz.ntmps112
    go_wp2_with (first | (go_at_call 57; refine (mtorn_any N D _ hN0 hD0).mono ?_; rintro e w1 ⟨rfl, hb1⟩; (first | replace hB := hB.st0 hb1 | replace hB := hB.st1 hb1 | replace hB := hB.std hb1 | replace hB := hB.std1 hb1 | replace hB := hB.st2 hb1 | replace hB := hB.std2 hb1 | replace hB := hB.st3 hb1); have kB := hB.facts; (first | replace hN0 := hN0.st0 hb1 | replace hN0 := hN0.st1 hb1 | replace hN0 := hN0.std hb1 | replace hN0 := hN0.std1 hb1 | replace hN0 := hN0.st2 hb1 | replace hN0 := hN0.std2 hb1 | replace hN0 := hN0.st3 hb1); (first | replace hD0 := hD0.st0 hb1 | replace hD0 := hD0.st1 hb1 | replace hD0 := hD0.std hb1 | replace hD0 := hD0.std1 hb1 | replace hD0 := hD0.st2 hb1 | replace hD0 := hD0.std2 hb1 | replace hD0 := hD0.st3 hb1); (first | replace hL0 := hL0.st0 hb1 | replace hL0 := hL0.st1 hb1 | replace hL0 := hL0.std hb1 | replace hL0 := hL0.std1 hb1 | replace hL0 := hL0.st2 hb1 | replace hL0 := hL0.std2 hb1 | replace hL0 := hL0.st3 hb1)) | (go_at_call 113; refine (checkWalk_any l _ hL0).mono ?_; rintro e w2 ⟨rfl, hb2⟩; (first | replace hB := hB.st0 hb2 | replace hB := hB.st1 hb2 | replace hB := hB.std hb2 | replace hB := hB.std1 hb2 | replace hB := hB.st2 hb2 | replace hB := hB.std2 hb2 | replace hB := hB.st3 hb2); have kB := hB.facts; (first | replace hN0 := hN0.st0 hb2 | replace hN0 := hN0.st1 hb2 | replace hN0 := hN0.std hb2 | replace hN0 := hN0.std1 hb2 | replace hN0 := hN0.st2 hb2 | replace hN0 := hN0.std2 hb2 | replace hN0 := hN0.st3 hb2); (first | replace hD0 := hD0.st0 hb2 | replace hD0 := hD0.st1 hb2 | replace hD0 := hD0.std hb2 | replace hD0 := hD0.std1 hb2 | replace hD0 := hD0.st2 hb2 | replace hD0 := hD0.std2 hb2 | replace hD0 := hD0.st3 hb2); (first | replace hL0 := hL0.st0 hb2 | replace hL0 := hL0.st1 hb2 | replace hL0 := hL0.std hb2 | replace hL0 := hL0.std1 hb2 | replace hL0 := hL0.st2 hb2 | replace hL0 := hL0.std2 hb2 | replace hL0 := hL0.st3 hb2)) | (go_at_call 79; refine (mfirst_any [tornE N D, cwE l] _ _ _ (by simp [maxLen]) (Rd.ints2 (by simp) (by go_simp) (by go_simp))).mono ?_; rintro e w3 ⟨rfl, hb3⟩; (first | replace hB := hB.st0 hb3 | replace hB := hB.st1 hb3 | replace hB := hB.std hb3 | replace hB := hB.std1 hb3 | replace hB := hB.st2 hb3 | replace hB := hB.std2 hb3 | replace hB := hB.st3 hb3); have kB := hB.facts; (first | replace hN0 := hN0.st0 hb3 | replace hN0 := hN0.st1 hb3 | replace hN0 := hN0.std hb3 | replace hN0 := hN0.std1 hb3 | replace hN0 := hN0.st2 hb3 | replace hN0 := hN0.std2 hb3 | replace hN0 := hN0.st3 hb3); (first | replace hD0 := hD0.st0 hb3 | replace hD0 := hD0.st1 hb3 | replace hD0 := hD0.std hb3 | replace hD0 := hD0.std1 hb3 | replace hD0 := hD0.st2 hb3 | replace hD0 := hD0.std2 hb3 | replace hD0 := hD0.st3 hb3); (first | replace hL0 := hL0.st0 hb3 | replace hL0 := hL0.st1 hb3 | replace hL0 := hL0.std hb3 | replace hL0 := hL0.std1 hb3 | replace hL0 := hL0.st2 hb3 | replace hL0 := hL0.std2 hb3 | replace hL0 := hL0.st3 hb3)))
    go_ret
    exact ⟨ret_int (by rw [HS.out]), by (repeat (first | exact bl_refl | assumption | (apply bl_then; assumption) | refine bl_alloc ?_ _ | refine bl_drew ?_ | refine bl_drewN ?_ _))⟩

theorem checkRun_any {v u x : Value} (N D : List Bar) (l : List Knot) (w : World) (hN : SlB w v N) (hD : SlB w u D) (hl : SlK w x l) : Calls Tryz.prog 60 #[.agg #[v, u], x] w (RV w (.int .i64 (provedE N D l))) := by
  have hB := Blk.new w 32 #[v, u]
  have hN0 := hN.alloc (.cells #[v, u] 32)
  have hD0 := hD.alloc (.cells #[v, u] 32)
  have hL0 := hl.alloc (.cells #[v, u] 32)
  go_enter Tryz.func60, Tryz.ntmps60
  go_wp2_with (go_at_call 112; refine (proved_any N D l _ hN0 hD0 hL0).mono ?_; rintro e w1 ⟨rfl, hb1⟩)
  go_ret
  exact ⟨rfl, by (repeat (first | exact bl_refl | assumption | (apply bl_then; assumption) | refine bl_alloc ?_ _ | refine bl_drew ?_ | refine bl_drewN ?_ _))⟩

/-- the net restored -/
def restL (N D : List Bar) (l : List Knot) : List Bar := if provedE N D l = 0 then srtB (wout N D ++ passP l) else []
theorem proved_zero {N D : List Bar} {l : List Knot} (h : provedE N D l = 0) : TornOk N D ∧ cwE l = 0 := by
  unfold provedE at h
  split at h
  · rename_i h1
    obtain ⟨z1, z2⟩ := firstI_zero h1
    exact ⟨torn_ok z1, z2⟩
  · rename_i h1; exact absurd h h1
theorem cwE_ok {l : List Knot} (h : cwE l = 0) : adjAll l = true ∧ ∀ k ∈ l, nearK k := by
  unfold cwE at h
  split at h
  · cases h
  · split at h
    · rename_i h1
      split at h
      · rename_i h2; exact ⟨h2, fun k hk => (knotsE_near h1 k hk).1⟩
      · cases h
    · rename_i h1; exact absurd h h1
end Go.Proofs.YthcnngoaijgnoaaGreat

/- The least trimming of a torn net, of the program, walked. Conditions: slices that read as lists. -/
namespace Go.Proofs.YthcnngoaijgnoaaGreat
open Go.RowKit Go.ChangeMaps
set_option maxHeartbeats 4000000
set_option maxRecDepth 100000

def trimF (D S : List Bar) : Nat → Nat → Option (List Bar)
  | 0, _ => none
  | f + 1, n => match srch n D S with
    | some x => some x
    | none => trimF D S f (n + 1)
def leastO (N D : List Bar) (m : Int) : Option (List Bar) := trimF D (wout N D) (m.toNat + 1) 0
def leastP (N D : List Bar) (m : Int) : Int := firstI [tornE N D, withinI m 0 4, whenI (decide ((64 : Int) < N.length)) 22]
def leastE (N D : List Bar) (m : Int) : Int := if leastP N D m = 0 then (if (leastO N D m).isSome then 0 else 23) else leastP N D m
def leastL (N D : List Bar) (m : Int) : List Bar := if leastE N D m = 0 then (leastO N D m).getD [] else []

theorem app_nodup {N D : List Bar} (h : N.Nodup) (hD : D.Nodup) : (D ++ wout N D).Nodup := by
  rw [List.nodup_append]
  refine ⟨hD, h.filter _, fun a ha b hb e => ?_⟩
  subst e
  have := (List.mem_filter.1 hb).2
  simp [hasb, ha] at this

theorem trim_any {v u : Value} (N D : List Bar) (m : Int) (w : World) (hN : SlB w v N) (hD : SlB w u D) : Calls Tryz.prog 33 #[.agg #[v, u], .int .i64 m] w (RBE w (leastL N D m) (leastE N D m)) := by
  have hB := Blk.new w 32 #[v, u]
  have hN0 := hN.alloc (.cells #[v, u] 32)
  have hD0 := hD.alloc (.cells #[v, u] 32)
  obtain ⟨A, c, rfl, hlc, hcm, hr⟩ := hN
  clear hr
  by_cases hE0 : leastP N D m = 0
  · have hE' : (firstI [tornE N D, withinI m 0 4, whenI (decide ((64 : Int) < N.length)) 22] != 0) = false := by
      have : firstI [tornE N D, withinI m 0 4, whenI (decide ((64 : Int) < N.length)) 22] = 0 := hE0
      rw [this]; rfl
    obtain ⟨z1, z2, z3⟩ := firstI_zero3 hE0
    have hok := torn_ok z1
    obtain ⟨m1, m2⟩ := within_zero z2
    obtain ⟨mn, rfl⟩ : ∃ mn : Nat, m = mn := ⟨m.toNat, by omega⟩
    have HS : Hid (leastE N D mn = if (trimF D (wout N D) (mn + 1) 0).isSome then 0 else 23) := by unfold Hid leastE; rw [if_pos hE0]; rfl
    have HO : Hid (leastO N D mn = trimF D (wout N D) (mn + 1) 0) := rfl
    have hnl := hok.lens.1
    have hdn := app_nodup hok.net.nodup hok.dam.nodup
    have hbk : ∀ b ∈ D ++ wout N D, BarOk b := fun b hb => by
      rcases List.mem_append.1 hb with h | h
      · exact hok.dam.ok b h
      · exact hok.net.ok b (List.mem_filter.1 h).1
    have hll : (D ++ wout N D).length ≤ 100000 := by
      have e1 : (wout N D).length ≤ N.length := List.length_filter_le _ _
      have := hok.net.len
      have := hok.dam.len
      rw [List.length_append]
      omega
    have HX := Lib.hid (⟨hdn, hbk, hll⟩ : (D ++ wout N D).Nodup ∧ (∀ b ∈ D ++ wout N D, BarOk b) ∧ (D ++ wout N D).length ≤ 100000)
    have hmn : mn ≤ 4 := by omega
    clear hE0 z1 z2 z3 hdn hbk hll m1 m2
    go_enter Tryz.func33, Tryz.ntmps33
    go_wp2
    refine wp_region_ords [0, 2, 4, 5, 6, 7] [(1, false), (3, false)] [8, 9, 10, 11] (by kernel_rfl) (by kernel_rfl) (fun d _ _ _ _ h => by cases d <;> exact h) ?_
    simp only [List.map_cons, List.map_nil, List.getD_cons_zero, List.getD_cons_succ]
    repeat (go_big_quiet_step (fail))
    refine wpQuiet_nil ?_
    refine wpMid_run rfl (fun K hK => ?_)
    go_simp
    refine (mtorn_any N D _ hN0.drew hD0.drew).mono ?_
    rintro e w1 ⟨rfl, hb1⟩
    refine hK _ _ (by (repeat (first | exact bl_refl | assumption | (apply bl_then; assumption) | refine bl_alloc ?_ _ | refine bl_drew ?_ | refine bl_drewN ?_ _))) ?_
    clear hK K
    (first | replace hB := hB.st0 hb1 | replace hB := hB.st1 hb1 | replace hB := hB.std hb1 | replace hB := hB.std1 hb1 | replace hB := hB.st2 hb1 | replace hB := hB.std2 hb1 | replace hB := hB.st3 hb1)
    have kB := hB.facts
    (first | replace hN0 := hN0.st0 hb1 | replace hN0 := hN0.st1 hb1 | replace hN0 := hN0.std hb1 | replace hN0 := hN0.std1 hb1 | replace hN0 := hN0.st2 hb1 | replace hN0 := hN0.std2 hb1 | replace hN0 := hN0.st3 hb1)
    (first | replace hD0 := hD0.st0 hb1 | replace hD0 := hD0.st1 hb1 | replace hD0 := hD0.std hb1 | replace hD0 := hD0.std1 hb1 | replace hD0 := hD0.st2 hb1 | replace hD0 := hD0.std2 hb1 | replace hD0 := hD0.st3 hb1)
    refine wpMid_run rfl (fun K hK => ?_)
    go_simp
    refine (mwithin_any mn 0 4 _).mono ?_
    rintro e w2 ⟨rfl, hb2⟩
    refine hK _ _ (by (repeat (first | exact bl_refl | assumption | (apply bl_then; assumption) | refine bl_alloc ?_ _ | refine bl_drew ?_ | refine bl_drewN ?_ _))) ?_
    clear hK K
    (first | replace hB := hB.st0 hb2 | replace hB := hB.st1 hb2 | replace hB := hB.std hb2 | replace hB := hB.std1 hb2 | replace hB := hB.st2 hb2 | replace hB := hB.std2 hb2 | replace hB := hB.st3 hb2)
    have kB := hB.facts
    (first | replace hN0 := hN0.st0 hb2 | replace hN0 := hN0.st1 hb2 | replace hN0 := hN0.std hb2 | replace hN0 := hN0.std1 hb2 | replace hN0 := hN0.st2 hb2 | replace hN0 := hN0.std2 hb2 | replace hN0 := hN0.st3 hb2)
    (first | replace hD0 := hD0.st0 hb2 | replace hD0 := hD0.st1 hb2 | replace hD0 := hD0.std hb2 | replace hD0 := hD0.std1 hb2 | replace hD0 := hD0.st2 hb2 | replace hD0 := hD0.std2 hb2 | replace hD0 := hD0.st3 hb2)
    refine wpMid_nil ?_
    go_wp2_with (first | (go_at_call 83; refine (mwhen_any _ _ _).mono ?_; rintro e w3 ⟨rfl, hb3⟩; (first | replace hB := hB.st0 hb3 | replace hB := hB.st1 hb3 | replace hB := hB.std hb3 | replace hB := hB.std1 hb3 | replace hB := hB.st2 hb3 | replace hB := hB.std2 hb3 | replace hB := hB.st3 hb3); have kB := hB.facts; (first | replace hN0 := hN0.st0 hb3 | replace hN0 := hN0.st1 hb3 | replace hN0 := hN0.std hb3 | replace hN0 := hN0.std1 hb3 | replace hN0 := hN0.st2 hb3 | replace hN0 := hN0.std2 hb3 | replace hN0 := hN0.st3 hb3); (first | replace hD0 := hD0.st0 hb3 | replace hD0 := hD0.st1 hb3 | replace hD0 := hD0.std hb3 | replace hD0 := hD0.std1 hb3 | replace hD0 := hD0.st2 hb3 | replace hD0 := hD0.std2 hb3 | replace hD0 := hD0.st3 hb3)) | (go_at_call 79; refine (mfirst_any [tornE N D, withinI mn 0 4, whenI (decide ((64 : Int) < N.length)) 22] _ _ _ (by simp [maxLen]) (Rd.ints3 (by simp) (by go_simp) (by go_simp) (by go_simp))).mono ?_; rintro e w4 ⟨rfl, hb4⟩; (first | replace hB := hB.st0 hb4 | replace hB := hB.st1 hb4 | replace hB := hB.std hb4 | replace hB := hB.std1 hb4 | replace hB := hB.st2 hb4 | replace hB := hB.std2 hb4 | replace hB := hB.st3 hb4); have kB := hB.facts; (first | replace hN0 := hN0.st0 hb4 | replace hN0 := hN0.st1 hb4 | replace hN0 := hN0.std hb4 | replace hN0 := hN0.std1 hb4 | replace hN0 := hN0.st2 hb4 | replace hN0 := hN0.std2 hb4 | replace hN0 := hN0.st3 hb4); (first | replace hD0 := hD0.st0 hb4 | replace hD0 := hD0.st1 hb4 | replace hD0 := hD0.std hb4 | replace hD0 := hD0.std1 hb4 | replace hD0 := hD0.st2 hb4 | replace hD0 := hD0.std2 hb4 | replace hD0 := hD0.st3 hb4)))
    have hbw4 : Below w.heap.size w w4 := by (repeat (first | exact bl_refl | assumption | (apply bl_then; assumption) | refine bl_alloc ?_ _ | refine bl_drew ?_ | refine bl_drewN ?_ _))
    refine wp_region_ords [0, 1, 3, 4, 5, 6] [(2, false)] [7, 8, 9] (by kernel_rfl) (by kernel_rfl) (fun d _ _ _ _ h => by cases d <;> exact h) ?_
    simp only [List.map_cons, List.map_nil, List.getD_cons_zero, List.getD_cons_succ]
    repeat (go_big_quiet_step (fail))
    refine wpQuiet_nil ?_
    refine wpMid_run rfl (fun K hK => ?_)
    go_simp
    refine (newHole_any D _ hD0.drew hok.dam.nodup hok.dam.ok).mono ?_
    rintro e w5 ⟨h, rb, rk, rfl, hh5, hrb5, hrk5, H5, hb5⟩
    refine hK _ _ (by (repeat (first | exact bl_refl | assumption | (apply bl_then; assumption) | refine bl_alloc ?_ _ | refine bl_drew ?_ | refine bl_drewN ?_ _))) ?_
    clear hK K
    (first | replace hB := hB.st0 hb5 | replace hB := hB.st1 hb5 | replace hB := hB.std hb5 | replace hB := hB.std1 hb5 | replace hB := hB.st2 hb5 | replace hB := hB.std2 hb5 | replace hB := hB.st3 hb5)
    have kB := hB.facts
    (first | replace hN0 := hN0.st0 hb5 | replace hN0 := hN0.st1 hb5 | replace hN0 := hN0.std hb5 | replace hN0 := hN0.std1 hb5 | replace hN0 := hN0.st2 hb5 | replace hN0 := hN0.std2 hb5 | replace hN0 := hN0.st3 hb5)
    (first | replace hD0 := hD0.st0 hb5 | replace hD0 := hD0.st1 hb5 | replace hD0 := hD0.std hb5 | replace hD0 := hD0.std1 hb5 | replace hD0 := hD0.st2 hb5 | replace hD0 := hD0.std2 hb5 | replace hD0 := hD0.st3 hb5)
    refine wpMid_nil ?_
    go_wp2_with (go_at_call 97; refine (without_any N D _ hN0 hD0 hnl).mono ?_; rintro e w6 ⟨v6, rfl, hown6, hb6⟩)
    have H6 := H5.below hb6
    have hbw6 : Below w.heap.size w w6 := by (repeat (first | exact bl_refl | assumption | (apply bl_then; assumption) | refine bl_alloc ?_ _ | refine bl_drew ?_ | refine bl_drewN ?_ _))
    have hw4 := hbw4.size
    have hS6 := hown6.rd bc_len
    simp only [World.size_drew] at hrb5 hrk5
    have T0 : Hid (trimF D (wout N D) (mn + 1) 0 = trimF D (wout N D) (mn + 1 - 0) 0) := rfl
    go_loopw [36] (fun i wr => ∃ k : Nat, k ≤ mn + 1 ∧ i = .int .i64 k ∧ HoleAt wr h rb rk D ∧ Chg [rb, rk] w6 wr ∧ Hid (trimF D (wout N D) (mn + 1) 0 = trimF D (wout N D) (mn + 1 - k) k)) (fun i _ => mn + 1 - (intOf i).toNat)
    case atStart => exact ⟨0, Nat.zero_le _, rfl, H6, Chg.refl, T0⟩
    case round =>
      obtain ⟨k, hk, rfl, H, hc, HK⟩ := hrel
      have hbwr : Below w.heap.size w wr := ((Chg.of_below (S := [rb, rk]) hbw6).trans hc).below (by simp; omega) (Nat.le_refl _)
      by_cases hlt : k < mn + 1
      · have hSr := sl_chg hS6 bc_pos H6 hc
        obtain ⟨h1, h2, h3⟩ := HX.out
        have hsr := search_any k (by omega) D (wout N D) _ wr h rb rk H hSr h1 h2 h3
        clear h1 h2 h3
        have hcl : ((k : Int) < (mn : Int) + 1) = True := by simp; omega
        obtain ⟨f, hf⟩ : ∃ f, mn + 1 - k = f + 1 := ⟨mn - k, by omega⟩
        have HK2 : Hid (trimF D (wout N D) (mn + 1) 0 = match srch k D (wout N D) with
            | some x => some x
            | none => trimF D (wout N D) f (k + 1)) := by unfold Hid; rw [HK.out, hf]; rfl
        obtain ⟨o, ho⟩ : ∃ o, srch k D (wout N D) = o := ⟨_, rfl⟩
        rw [ho] at hsr HK2
        clear ho
        cases o with
        | none =>
          go_wp2_with (go_at_call 98; refine hsr.mono ?_; rintro e w7 ⟨v7, rfl, hown7, H7, hc7⟩)
          go_roundw
          case rel => exact ⟨k + 1, by omega, by go_num, H7, hc.trans hc7, by unfold Hid; rw [HK2.out, show mn + 1 - (k + 1) = f by omega]⟩
          case measure => simp [intOf]; omega
        | some z =>
          have hz : Hid (leastE N D mn = 0 ∧ leastL N D mn = z) := by
            have h1 : leastE N D mn = 0 := by rw [HS.out, HK2.out]; rfl
            exact ⟨h1, by unfold leastL; rw [if_pos h1, HO.out, HK2.out]; rfl⟩
          have hw := hbwr.size
          go_wp2_with (go_at_call 98; refine hsr.mono ?_; rintro e w7 ⟨v7, rfl, hown7, H7, hc7⟩)
          go_ret2
          exact ⟨v7, by rw [hz.out.1]; rfl, by rw [hz.out.2]; exact hown7.base_mono hw, ((Chg.of_below (S := [rb, rk]) hbw6).trans (hc.trans hc7)).below (by simp; omega) (Nat.le_refl _)⟩
      · have hkm : k = mn + 1 := by omega
        have hcl : ((k : Int) < (mn : Int) + 1) = False := by simp; omega
        have hz : Hid (leastE N D mn = 23 ∧ leastL N D mn = []) := by
          have h1 : leastE N D mn = 23 := by rw [HS.out, HK.out, hkm, Nat.sub_self]; rfl
          exact ⟨h1, by unfold leastL; rw [h1]; rfl⟩
        go_wp2
        go_ret2
        exact ⟨.slice none 0 0, by rw [hz.out.1]; rfl, by rw [hz.out.2]; exact Own.nil_, hbwr⟩
  · have hE' : (firstI [tornE N D, withinI m 0 4, whenI (decide ((64 : Int) < N.length)) 22] != 0) = true := by
      have : firstI [tornE N D, withinI m 0 4, whenI (decide ((64 : Int) < N.length)) 22] ≠ 0 := hE0
      simpa using this
    have HS : Hid (leastL N D m = [] ∧ leastE N D m = leastP N D m) := by
      have : leastE N D m = leastP N D m := by unfold leastE; rw [if_neg hE0]
      exact ⟨by unfold leastL; rw [this, if_neg hE0], this⟩
    clear hE0
    go_enter Tryz.func33, Tryz.ntmps33
    go_wp2
    refine wp_region_ords [0, 2, 4, 5, 6, 7] [(1, false), (3, false)] [8, 9, 10, 11] (by kernel_rfl) (by kernel_rfl) (fun d _ _ _ _ h => by cases d <;> exact h) ?_
    simp only [List.map_cons, List.map_nil, List.getD_cons_zero, List.getD_cons_succ]
    repeat (go_big_quiet_step (fail))
    refine wpQuiet_nil ?_
    refine wpMid_run rfl (fun K hK => ?_)
    go_simp
    refine (mtorn_any N D _ hN0.drew hD0.drew).mono ?_
    rintro e w1 ⟨rfl, hb1⟩
    refine hK _ _ (by (repeat (first | exact bl_refl | assumption | (apply bl_then; assumption) | refine bl_alloc ?_ _ | refine bl_drew ?_ | refine bl_drewN ?_ _))) ?_
    clear hK K
    (first | replace hB := hB.st0 hb1 | replace hB := hB.st1 hb1 | replace hB := hB.std hb1 | replace hB := hB.std1 hb1 | replace hB := hB.st2 hb1 | replace hB := hB.std2 hb1 | replace hB := hB.st3 hb1)
    have kB := hB.facts
    (first | replace hN0 := hN0.st0 hb1 | replace hN0 := hN0.st1 hb1 | replace hN0 := hN0.std hb1 | replace hN0 := hN0.std1 hb1 | replace hN0 := hN0.st2 hb1 | replace hN0 := hN0.std2 hb1 | replace hN0 := hN0.st3 hb1)
    (first | replace hD0 := hD0.st0 hb1 | replace hD0 := hD0.st1 hb1 | replace hD0 := hD0.std hb1 | replace hD0 := hD0.std1 hb1 | replace hD0 := hD0.st2 hb1 | replace hD0 := hD0.std2 hb1 | replace hD0 := hD0.st3 hb1)
    refine wpMid_run rfl (fun K hK => ?_)
    go_simp
    refine (mwithin_any m 0 4 _).mono ?_
    rintro e w2 ⟨rfl, hb2⟩
    refine hK _ _ (by (repeat (first | exact bl_refl | assumption | (apply bl_then; assumption) | refine bl_alloc ?_ _ | refine bl_drew ?_ | refine bl_drewN ?_ _))) ?_
    clear hK K
    (first | replace hB := hB.st0 hb2 | replace hB := hB.st1 hb2 | replace hB := hB.std hb2 | replace hB := hB.std1 hb2 | replace hB := hB.st2 hb2 | replace hB := hB.std2 hb2 | replace hB := hB.st3 hb2)
    have kB := hB.facts
    (first | replace hN0 := hN0.st0 hb2 | replace hN0 := hN0.st1 hb2 | replace hN0 := hN0.std hb2 | replace hN0 := hN0.std1 hb2 | replace hN0 := hN0.st2 hb2 | replace hN0 := hN0.std2 hb2 | replace hN0 := hN0.st3 hb2)
    (first | replace hD0 := hD0.st0 hb2 | replace hD0 := hD0.st1 hb2 | replace hD0 := hD0.std hb2 | replace hD0 := hD0.std1 hb2 | replace hD0 := hD0.st2 hb2 | replace hD0 := hD0.std2 hb2 | replace hD0 := hD0.st3 hb2)
    refine wpMid_nil ?_
    go_wp2_with (first | (go_at_call 83; refine (mwhen_any _ _ _).mono ?_; rintro e w3 ⟨rfl, hb3⟩; (first | replace hB := hB.st0 hb3 | replace hB := hB.st1 hb3 | replace hB := hB.std hb3 | replace hB := hB.std1 hb3 | replace hB := hB.st2 hb3 | replace hB := hB.std2 hb3 | replace hB := hB.st3 hb3); have kB := hB.facts; (first | replace hN0 := hN0.st0 hb3 | replace hN0 := hN0.st1 hb3 | replace hN0 := hN0.std hb3 | replace hN0 := hN0.std1 hb3 | replace hN0 := hN0.st2 hb3 | replace hN0 := hN0.std2 hb3 | replace hN0 := hN0.st3 hb3); (first | replace hD0 := hD0.st0 hb3 | replace hD0 := hD0.st1 hb3 | replace hD0 := hD0.std hb3 | replace hD0 := hD0.std1 hb3 | replace hD0 := hD0.st2 hb3 | replace hD0 := hD0.std2 hb3 | replace hD0 := hD0.st3 hb3)) | (go_at_call 79; refine (mfirst_any [tornE N D, withinI m 0 4, whenI (decide ((64 : Int) < N.length)) 22] _ _ _ (by simp [maxLen]) (Rd.ints3 (by simp) (by go_simp) (by go_simp) (by go_simp))).mono ?_; rintro e w4 ⟨rfl, hb4⟩; (first | replace hB := hB.st0 hb4 | replace hB := hB.st1 hb4 | replace hB := hB.std hb4 | replace hB := hB.std1 hb4 | replace hB := hB.st2 hb4 | replace hB := hB.std2 hb4 | replace hB := hB.st3 hb4); have kB := hB.facts; (first | replace hN0 := hN0.st0 hb4 | replace hN0 := hN0.st1 hb4 | replace hN0 := hN0.std hb4 | replace hN0 := hN0.std1 hb4 | replace hN0 := hN0.st2 hb4 | replace hN0 := hN0.std2 hb4 | replace hN0 := hN0.st3 hb4); (first | replace hD0 := hD0.st0 hb4 | replace hD0 := hD0.st1 hb4 | replace hD0 := hD0.std hb4 | replace hD0 := hD0.std1 hb4 | replace hD0 := hD0.st2 hb4 | replace hD0 := hD0.std2 hb4 | replace hD0 := hD0.st3 hb4)))
    go_ret2
    exact ⟨.slice none 0 0, by rw [HS.out.2]; rfl, by rw [HS.out.1]; exact Own.nil_, by (repeat (first | exact bl_refl | assumption | (apply bl_then; assumption) | refine bl_alloc ?_ _ | refine bl_drew ?_ | refine bl_drewN ?_ _))⟩
end Go.Proofs.YthcnngoaijgnoaaGreat

/- The bars that a walk passes, of the program, walked. Conditions: the walk's knots within bounds, a bar between each two. -/
namespace Go.Proofs.YthcnngoaijgnoaaGreat
open Go.RowKit Go.ChangeMaps
set_option maxHeartbeats 4000000
set_option maxRecDepth 100000

theorem passP_drop {l : List Knot} {k : Nat} (hk : k + 1 < l.length) : passP (l.drop k) = btwB l[k] l[k + 1] :: passP (l.drop (k + 1)) := by
  rw [List.drop_eq_getElem_cons (show k < l.length by omega), List.drop_eq_getElem_cons hk]; rfl
theorem passP_end {l : List Knot} {k : Nat} (hk : l.length ≤ k + 1) : passP (l.drop k) = [] := by
  rcases Nat.lt_or_ge k l.length with h | h
  · rw [List.drop_eq_getElem_cons h, List.drop_eq_nil_of_le (by omega)]; rfl
  · rw [List.drop_eq_nil_of_le h]; rfl
theorem passed_any {v : Value} (l : List Knot) (w : World) (h : SlK w v l) (hadj : adjAll l = true) (hnear : ∀ k ∈ l, nearK k) (hlen : l.length ≤ 100000) : Calls Tryz.prog 115 #[v] w (RB w (passP l)) := by
  obtain ⟨A, c, rfl, hlc, hcm, h⟩ := h
  have hl : l.length ≤ maxLen := Nat.le_trans hlc hcm
  unfold maxLen at hl
  obtain ⟨m, hm⟩ : ∃ m, l.length - 1 = m := ⟨_, rfl⟩
  have hmx : max (0 : Int) ((l.length : Int) - 1) = (m : Int) := by omega
  have HN := Lib.hid hnear
  have HA := Lib.hid hadj
  clear hnear hadj
  go_enter Tryz.func115, Tryz.ntmps115
  go_wp2
  go_loopw [3, 11] (fun o i wr => ∃ (k : Nat) (acc : List Bar), k ≤ m ∧ i = .int .i64 k ∧ acc.length = k ∧ Hid (acc ++ passP (l.drop k) = passP l) ∧ Hid (adjAll (l.drop k) = true) ∧ OwB w.heap.size wr o acc ∧ Below w.heap.size w wr) (fun _ i _ => m - (intOf i).toNat)
  case atStart => exact ⟨0, [], Nat.zero_le _, rfl, rfl, rfl, HA, Own.nil_, by (repeat (first | exact bl_refl | assumption | (apply bl_then; assumption) | refine bl_alloc ?_ _ | refine bl_drew ?_ | refine bl_drewN ?_ _))⟩
  case round =>
    obtain ⟨k, acc, hk, rfl, hal, H, HD, hown, hbw⟩ := hrel
    have HAL := Lib.hid hal
    have hal2 : acc.length ≤ 1000000 := by omega
    clear hal
    by_cases hlt : k < m
    · have hr := h.below hbw
      have hlt1 : k < l.length := by omega
      have hlt2 : k + 1 < l.length := by omega
      obtain ⟨b, off, rfl, hb, e0, e1⟩ := hr.knot hlt1
      obtain ⟨_, e2, e3⟩ := hr.knotAt hlt2
      have hdr := HD.out
      rw [adjAll_drop hlt2, Bool.and_eq_true] at hdr
      have hnk : nearK (l[k].1, l[k].2) := HN.out _ (List.getElem_mem hlt1)
      have hbt := fun W => between_any l[k].1 l[k].2 l[k + 1].1 l[k + 1].2 W hnk
      have hadj1 : adjB (l[k].1, l[k].2) (l[k + 1].1, l[k + 1].2) = true := hdr.1
      have hbe : betw (l[k].1, l[k].2) (l[k + 1].1, l[k + 1].2) = btwB l[k] l[k + 1] := by unfold betw; rw [hadj1]; rfl
      obtain ⟨⟨bx, by_, bs⟩, hbb⟩ : ∃ z, btwB l[k] l[k + 1] = z := ⟨_, rfl⟩
      rw [hbe, hbb, hadj1] at hbt
      have HB : Hid ((acc ++ [(bx, by_, bs)]) ++ passP (l.drop (k + 1)) = passP l ∧ adjAll (l.drop (k + 1)) = true) := by
        refine ⟨?_, hdr.2⟩
        rw [← H.out, passP_drop hlt2, hbb, List.append_assoc]; rfl
      clear hdr hadj1 hbe hbb HD H
      go_wp2
      refine wp_region_tree [0, 1, 2, 3, 4, 5, 6, 7, 8] (.alt (.br 9 (.take 10 (.take 11 (.take 12 (.alt (.br 13 (.alt (.br 14 (.fin) (.stop))) (.stop)))))) (.br 13 (.alt (.br 9 (.take 10 (.take 11 (.take 12 (.alt (.br 14 (.fin) (.stop)))))) (.stop))) (.stop)))) [15] (by kernel_rfl) (by kernel_rfl) (fun d _ _ _ _ h => by cases d <;> exact h) ?_
      simp only [List.map_cons, List.map_nil, List.getD_cons_zero, List.getD_cons_succ]
      repeat (go_big_quiet_step (fail))
      refine wpQuiet_nil ?_
      refine wpTree_alt (wpTree_br rfl rfl ?_ (wpTree_br rfl rfl ?_ wpTree_stop))
      · intro K hK
        go_simp
        refine (hbt _).mono ?_
        rintro e w4 ⟨rfl, hb4⟩
        refine hK _ _ (by (repeat (first | exact bl_refl | assumption | (apply bl_then; assumption) | refine bl_alloc ?_ _ | refine bl_drew ?_ | refine bl_drewN ?_ _))) ?_
        clear hK K
        refine wpTree_take rfl rfl ?_
        intro K hK; simp only [Array.getD_eq_getD_getElem?, List.getElem?_toArray, List.getElem?_cons_succ, List.getElem?_cons_zero, Option.getD_some]; go_big_quiet_op; go_big_quiet_on
        refine wpTree_take rfl rfl ?_
        intro K hK; simp only [Array.getD_eq_getD_getElem?, List.getElem?_toArray, List.getElem?_cons_succ, List.getElem?_cons_zero, Option.getD_some]; go_big_quiet_op; go_big_quiet_on
        refine wpTree_take rfl rfl ?_
        intro K hK; simp only [Array.getD_eq_getD_getElem?, List.getElem?_toArray, List.getElem?_cons_succ, List.getElem?_cons_zero, Option.getD_some]; go_big_quiet_op; go_big_quiet_on
        refine wpTree_alt (wpTree_br rfl rfl ?_ wpTree_stop)
        intro K hK
        go_simp
        refine hK _ _ (by (repeat (first | exact bl_refl | assumption | (apply bl_then; assumption) | refine bl_alloc ?_ _ | refine bl_drew ?_ | refine bl_drewN ?_ _))) ?_
        clear hK K
        refine wpTree_alt (wpTree_br rfl rfl ?_ wpTree_stop)
        intro K hK
        go_simp
        refine hK _ _ (by (repeat (first | exact bl_refl | assumption | (apply bl_then; assumption) | refine bl_alloc ?_ _ | refine bl_drew ?_ | refine bl_drewN ?_ _))) ?_
        clear hK K
        refine wpTree_fin ?_
        have hown4 := (hown.below (bl_d hb4)).alloc (.cells #[.int .i64 bx, .int .i64 by_, .int .i64 bs] 70)
        have hbw4 : Below w.heap.size w (w4.alloc (.cells #[.int .i64 bx, .int .i64 by_, .int .i64 bs] 70)) := by (repeat (first | exact bl_refl | assumption | (apply bl_then; assumption) | refine bl_alloc ?_ _ | refine bl_drew ?_ | refine bl_drewN ?_ _))
        go_wp2_with (at_builtin; refine wpList_appB1 hown4 rfl _ _ rfl rfl rfl (by simp) (by omega) hbw4.size ?_; intro v6 w6 hown6 hgr6)
        have hbw6 := own_step hown4 hgr6 (by (repeat (first | exact bl_refl | assumption | (apply bl_then; assumption) | refine bl_alloc ?_ _ | refine bl_drew ?_ | refine bl_drewN ?_ _)))
        go_roundw
        case rel => exact ⟨k + 1, acc ++ [(bx, by_, bs)], by omega, by go_num, by simp [HAL.out], HB.out.1, HB.out.2, hown6, hbw6⟩
        case measure => simp [intOf]; omega
      · intro K hK
        go_simp
        refine hK _ _ (by (repeat (first | exact bl_refl | assumption | (apply bl_then; assumption) | refine bl_alloc ?_ _ | refine bl_drew ?_ | refine bl_drewN ?_ _))) ?_
        clear hK K
        refine wpTree_alt (wpTree_br rfl rfl ?_ wpTree_stop)
        intro K hK
        go_simp
        refine (hbt _).mono ?_
        rintro e w4 ⟨rfl, hb4⟩
        refine hK _ _ (by (repeat (first | exact bl_refl | assumption | (apply bl_then; assumption) | refine bl_alloc ?_ _ | refine bl_drew ?_ | refine bl_drewN ?_ _))) ?_
        clear hK K
        have hBb := (Blk.new wr 70 #[.int .i64 0, .int .i64 0, .int .i64 0]).below (bl_d hb4)
        have fBb := hBb.facts
        refine wpTree_take rfl rfl ?_
        intro K hK; simp only [Array.getD_eq_getD_getElem?, List.getElem?_toArray, List.getElem?_cons_succ, List.getElem?_cons_zero, Option.getD_some]; go_big_quiet_op; go_big_quiet_on
        refine wpTree_take rfl rfl ?_
        intro K hK; simp only [Array.getD_eq_getD_getElem?, List.getElem?_toArray, List.getElem?_cons_succ, List.getElem?_cons_zero, Option.getD_some]; go_big_quiet_op; go_big_quiet_on
        refine wpTree_take rfl rfl ?_
        intro K hK; simp only [Array.getD_eq_getD_getElem?, List.getElem?_toArray, List.getElem?_cons_succ, List.getElem?_cons_zero, Option.getD_some]; go_big_quiet_op; go_big_quiet_on
        refine wpTree_alt (wpTree_br rfl rfl ?_ wpTree_stop)
        intro K hK
        go_simp
        refine hK _ _ ?_ ?_
        · exact bl_set3 (by (repeat (first | exact bl_refl | assumption | (apply bl_then; assumption) | refine bl_alloc ?_ _ | refine bl_drew ?_ | refine bl_drewN ?_ _))) (Nat.le_refl _) _ _ _
        clear hK K
        refine wpTree_fin ?_
        have hbS : Below w.heap.size w (((w4.setCell ⟨wr.heap.size, 0, none⟩ (.int .i64 bx)).setCell ⟨wr.heap.size, 1, none⟩ (.int .i64 by_)).setCell ⟨wr.heap.size, 2, none⟩ (.int .i64 bs)) := bl_set3 (by (repeat (first | exact bl_refl | assumption | (apply bl_then; assumption) | refine bl_alloc ?_ _ | refine bl_drew ?_ | refine bl_drewN ?_ _))) hbw.size _ _ _
        have hown4 := hown.below (bl_set3 (bl_a (bl_d hb4)) (Nat.le_refl _) (.int .i64 bx) (.int .i64 by_) (.int .i64 bs))
        have hBs := ((hBb.set_ 0 (.int .i64 bx)).set_ 1 (.int .i64 by_)).set_ 2 (.int .i64 bs)
        have fBs := hBs.facts
        go_wp2_with (at_builtin; refine wpList_appB1 hown4 rfl _ _ rfl rfl rfl (by simp) (by omega) hbS.size ?_; intro v6 w6 hown6 hgr6)
        have hbw6 := own_step hown4 hgr6 (by (repeat (first | exact bl_refl | assumption | (apply bl_then; assumption) | refine bl_alloc ?_ _ | refine bl_drew ?_ | refine bl_drewN ?_ _)))
        go_roundw
        case rel => exact ⟨k + 1, acc ++ [(bx, by_, bs)], by omega, by go_num, by simp [HAL.out], HB.out.1, HB.out.2, hown6, hbw6⟩
        case measure => simp [intOf]; omega
    · have hkm : k = m := by omega
      have hE := Lib.hid (passP_end (l := l) (k := k) (by omega))
      go_wp2
      go_ret
      exact ⟨_, rfl, by have := H.out; rw [hE.out, List.append_nil] at this; rw [← this]; exact hown, hbw⟩
end Go.Proofs.YthcnngoaijgnoaaGreat

/- Bars sorted in a fresh row, of the program, walked. Conditions: at most 100000 bars. -/
namespace Go.Proofs.YthcnngoaijgnoaaGreat
open Go.RowKit
set_option maxHeartbeats 4000000
set_option maxRecDepth 100000

section
variable {α : Type} {enc : α → List Value} {sz bytes : Nat} {P : Program} {t e : TypeId} {w : World}
theorem run_cp (E : Elem P t e sz bytes) (henc : ∀ x, (enc x).length = sz) (hone : ∀ x, ∀ u ∈ enc x, u.oneCell' = true) (base : Nat) (ty : TypeId) (v u : Value) (n : Nat) (r : List α) (hown : ∃ xs, w.ownsRow base e sz v n xs) (hu : Sl enc sz w u r) (hn : r.length = n) :
    ∃ w', (Builtin.copy_ #[t, t] ty #[v, u]).run P w = .ok (goInt n) w' ∧ Own enc sz base e w' v r ∧ w.grownBy w' v.ownBlock := by
  obtain ⟨hund, hrow, hpos⟩ := E
  obtain ⟨i, hi, hrow⟩ : ∃ i, P.info? e = some i ∧ (i.zero.map (fun z => z.cells.size), i.size, i.bytes) = (some sz, sz, bytes) := by
    cases h : P.info? e with
    | none => rw [h] at hrow; cases hrow
    | some i => rw [h] at hrow; exact ⟨i, rfl, Option.some.inj hrow⟩
  have h2 := congrArg (fun x => x.2.1) hrow
  simp only at h2
  obtain ⟨A, c, rfl, hlc, hcm, hr⟩ := hu
  obtain ⟨xs, hxl, hv⟩ := hown
  have hfl : (r.flatMap enc).length = r.length * sz := flat_len henc r
  cases A with
  | none =>
    have hr0 : r = [] := by
      cases r with
      | nil => rfl
      | cons x r =>
        obtain ⟨b, off, he, _⟩ := hr 0 x rfl
        cases he
    subst hr0
    obtain rfl : n = 0 := hn.symm
    refine ⟨w, ?_, ⟨by simp, ?_⟩, World.grownBy.refl _ _⟩
    · rcases hv with ⟨rfl, _⟩ | ⟨g, cap, cur, rfl, _, hh, _⟩
      · simp [Builtin.copy_, run_underlying hund, sizeOf, typeInfo, hi, Builtin.lenOf, Builtin.firstCells]
      · simp [Builtin.copy_, run_underlying hund, sizeOf, typeInfo, hi, Builtin.lenOf, Builtin.firstCells, storeCells]
    · rcases hv with h | ⟨g, cap, cur, rfl, hg, hh, hnc, hcm', hcs, htk⟩
      · exact .inl h
      · exact .inr ⟨g, cap, cur, rfl, hg, hh, hnc, hcm', hcs, by simp⟩
  | some ad =>
    have hsrc : ∀ j u, (r.flatMap enc)[j]? = some u → w.cell? (ad.add j) = some u := by
      intro j u hj
      have hjl : j < r.length * sz := by rw [← hfl]; exact (List.getElem?_eq_some_iff.1 hj).1
      have hk : j / sz < r.length := Nat.div_lt_of_lt_mul (by rw [Nat.mul_comm]; exact hjl)
      obtain ⟨b, off, he, hbl, hc⟩ := hr (j / sz) r[j / sz] (List.getElem?_eq_getElem hk)
      have hm : j % sz < (enc r[j / sz]).length := by rw [henc]; exact Nat.mod_lt _ hpos
      have hj' := flat_get henc r (j / sz) r[j / sz] (j % sz) _ (List.getElem?_eq_getElem hk) (List.getElem?_eq_getElem hm)
      have hdm : j / sz * sz + j % sz = j := by rw [Nat.mul_comm]; exact Nat.div_add_mod j sz
      rw [hdm, hj] at hj'
      have hcj := hc (j % sz) u (by rw [List.getElem?_eq_getElem hm]; exact hj'.symm)
      obtain rfl : ad = ⟨b, off, none⟩ := Option.some.inj he
      rw [Nat.add_assoc, hdm] at hcj
      unfold Addr.add
      split
      · rename_i h0
        subst h0
        exact hcj
      · exact hcj
    have hl := run_loadCells_list (P := P) w ad (r.flatMap enc) hsrc
    rw [hfl, hn] at hl
    have h1 : ∀ u ∈ r.flatMap enc, u.oneCell' = true := by
      intro u hu
      obtain ⟨x, hx, hux⟩ := List.mem_flatMap.1 hu
      exact hone x u hux
    rcases hv with ⟨rfl, rfl⟩ | ⟨g, cap, cur, rfl, hg, hh, hnc, hcm', hcs, htk⟩
    · have hr0 : r = [] := List.eq_nil_of_length_eq_zero hn
      subst hr0
      refine ⟨w, ?_, ⟨by simp, .inl ⟨rfl, rfl⟩⟩, World.grownBy.refl _ _⟩
      have hl0 : (loadCells ad 0).run P w = .ok #[] w := by simpa using hl
      simp [Builtin.copy_, run_underlying hund, sizeOf, typeInfo, hi, Builtin.lenOf, Builtin.firstCells, hl0]
    · have hfit : 0 + 0 + (r.flatMap enc).length ≤ cur.size := by rw [hfl, hcs, hn]; simpa using Nat.mul_le_mul_right sz hnc
      have hst := run_storeCells_at P g 0 e (r.flatMap enc) 0 cur w hh hfit h1
      refine ⟨w.setRow g (cur.toList.take (0 + 0) ++ r.flatMap enc ++ cur.toList.drop (0 + 0 + (r.flatMap enc).length)).toArray, ?_, ⟨hfl, .inr ⟨g, cap, _, by rw [hn], hg, setRow_heap w g cur _ e _ hh, by omega, hcm', ?_, ?_⟩⟩, ?_⟩
      · simp [Builtin.copy_, run_underlying hund, sizeOf, typeInfo, hi, h2, Builtin.lenOf, Builtin.firstCells, hn, hl, hst]
      · simp only [List.size_toArray, List.length_append, List.length_take, List.length_drop, Array.length_toList]; omega
      · simp [← hfl]
      · refine ⟨rfl, rfl, rfl, by simp [World.setRow], fun k hk hne => setRow_other w g k _ (fun e => hne (by simp [Value.ownBlock, e]))⟩
end

theorem sorted_any {v : Value} (l : List Bar) (w : World) (h : SlB w v l) (hlen : l.length ≤ 100000) : Calls Tryz.prog 114 #[v] w (RB w (srtB l)) := by
  have h0 := h
  obtain ⟨A, c, rfl, hlc, hcm, h⟩ := h
  have hl : l.length ≤ maxLen := Nat.le_trans hlc hcm
  obtain ⟨i, hi⟩ : ∃ i, Tryz.prog.info? 70 = some i := ⟨_, rfl⟩
  obtain ⟨z, hz⟩ : ∃ z, i.zero = some z := by
    have : (Tryz.prog.info? 70).bind (·.zero) = some (.agg #[.int .i64 0, .int .i64 0, .int .i64 0]) := by kernel_rfl
    rw [hi] at this
    exact ⟨_, this⟩
  have hsb : i.size = 3 ∧ i.bytes = 24 := by
    have h1 : (Tryz.prog.info? 70).map (fun i => (i.size, i.bytes)) = some (3, 24) := by kernel_rfl
    rw [hi] at h1
    simpa using h1
  go_enter Tryz.func114, Tryz.ntmps114
  go_wp2_with (at_make; refine wpList_make_full _ rfl _ _ 22 rfl w.heap.size 70 i z 3 bar_elem.und hi hz hsb.1 _ _ _ _ l.length rfl rfl rfl rfl (by rw [hsb.2]; omega) hl (Nat.le_refl _) ?_; intro w1 hrow hgr1)
  have hb1 : Below w.heap.size w w1 := bl_grown hgr1 bl_refl (by simp)
  have hu1 := h0.below hb1
  obtain ⟨w2, hrun, hown2, hgr2⟩ := run_cp (P := Tryz.prog) bar_elem bc_len bc_one w.heap.size 3 _ _ l.length l ⟨_, hrow⟩ hu1 rfl
  go_wp2_with fail
  rw [hrun]
  have hb2 := own_step hown2 hgr2 hb1
  go_wp2_with (go_at_call 151; refine (sortB_any l _ hown2 (by omega)).mono ?_; rintro e w3 ⟨rfl, hown3, hgr3⟩)
  have hb3 := own_step hown3 hgr3 hb2
  go_ret
  exact ⟨_, rfl, hown3, hb3⟩
end Go.Proofs.YthcnngoaijgnoaaGreat

/- The net restored, of the program, walked. Conditions: slices that read as lists. -/
namespace Go.Proofs.YthcnngoaijgnoaaGreat
open Go.RowKit Go.ChangeMaps
set_option maxHeartbeats 4000000
set_option maxRecDepth 100000

theorem passP_length : ∀ l : List Knot, (passP l).length = l.length - 1
  | [] => rfl
  | [_] => rfl
  | a :: b :: r => by
    have := passP_length (b :: r)
    show (btwB a b :: passP (b :: r)).length = _
    rw [List.length_cons, this]
    simp
theorem restore_any {v u x : Value} (N D : List Bar) (l : List Knot) (w : World) (hN : SlB w v N) (hD : SlB w u D) (hl : SlK w x l) : Calls Tryz.prog 63 #[.agg #[v, u], x] w (RBE w (restL N D l) (provedE N D l)) := by
  have hB := Blk.new w 32 #[v, u]
  have hN0 := hN.alloc (.cells #[v, u] 32)
  have hD0 := hD.alloc (.cells #[v, u] 32)
  have hL0 := hl.alloc (.cells #[v, u] 32)
  by_cases hE0 : provedE N D l = 0
  · have hE' : (provedE N D l != 0) = false := by rw [hE0]; rfl
    obtain ⟨hok, hcw⟩ := proved_zero hE0
    have hl' := cwE_len hcw
    have hpl := passP_length l
    have hwl : (wout N D).length ≤ N.length := List.length_filter_le _ _
    have hn1 := hok.net.len
    obtain ⟨hadj, hnear⟩ := cwE_ok hcw
    have HS : Hid (restL N D l = srtB (wout N D ++ passP l) ∧ provedE N D l = 0) := by unfold Hid restL; rw [if_pos hE0]; exact ⟨rfl, hE0⟩
    have HP := Lib.hid hpl
    have HW := Lib.hid hwl
    have hlp : (passP l).length ≤ 5000 := by omega
    have hlw : (wout N D).length ≤ 5000 := by omega
    have hlN : N.length ≤ 100000 := by omega
    clear hE0 hcw hpl hwl hn1
    go_enter Tryz.func63, Tryz.ntmps63
    go_wp2_with (first | (go_at_call 112; refine (proved_any N D l _ hN0 hD0 hL0).mono ?_; rintro e w1 ⟨rfl, hb1⟩; replace hB := hB.st0 hb1; have kB := hB.facts; replace hN0 := hN0.st0 hb1; replace hD0 := hD0.st0 hb1; replace hL0 := hL0.st0 hb1) |
      (go_at_call 97; refine (without_any N D _ hN0 hD0 hlN).mono ?_; rintro e w2 ⟨v2, rfl, hown2, hb2⟩; replace hL0 := hL0.st0 hb2) |
      (go_at_call 115; refine (passed_any l _ hL0 hadj hnear (by omega)).mono ?_; rintro e w3 ⟨v3, rfl, hown3, hb3⟩; have hown23 := hown2.below hb3) |
      (at_builtin; refine wpList_appBS hown23 (hown3.rd bc_len) rfl _ _ rfl rfl rfl (by omega) (by have := hb2.size; have := hb3.size; omega) ?_; intro v4 w4 hown4 hgr4))
    have hb4 : Below w.heap.size w w4 := bl_grown hgr4 (by (repeat (first | exact bl_refl | assumption | (apply bl_then; assumption) | refine bl_alloc ?_ _ | refine bl_drew ?_ | refine bl_drewN ?_ _))) fun k hk => Nat.le_trans (by have := hb1.size; simp at this; omega) (hown23.lt k hk).1
    go_wp2_with (go_at_call 114; refine (sorted_any _ _ (hown4.rd bc_len) (by rw [List.length_append]; omega)).mono ?_; rintro e w5 ⟨v5, rfl, hown5, hb5⟩)
    go_ret2
    exact ⟨v5, by rw [HS.out.2]; rfl, by rw [HS.out.1]; exact hown5.base_mono hb4.size, by (repeat (first | exact bl_refl | assumption | (apply bl_then; assumption) | refine bl_alloc ?_ _ | refine bl_drew ?_ | refine bl_drewN ?_ _))⟩
  · have hE' : (provedE N D l != 0) = true := by simpa using hE0
    have HS : Hid (restL N D l = []) := by unfold Hid restL; rw [if_neg hE0]
    clear hE0
    go_enter Tryz.func63, Tryz.ntmps63
    go_wp2_with (go_at_call 112; refine (proved_any N D l _ hN0 hD0 hL0).mono ?_; rintro e w1 ⟨rfl, hb1⟩)
    go_ret2
    exact ⟨.slice none 0 0, rfl, by rw [HS.out]; exact Own.nil_, by (repeat (first | exact bl_refl | assumption | (apply bl_then; assumption) | refine bl_alloc ?_ _ | refine bl_drew ?_ | refine bl_drewN ?_ _))⟩
end Go.Proofs.YthcnngoaijgnoaaGreat

/- Equal neighbours in a row of bars taken away, and the bars that a walk passes, of the program, walked. Conditions: a row of the call's own; slices that read as lists. -/
namespace Go.Proofs.YthcnngoaijgnoaaGreat
open Go.RowKit Go.ChangeMaps
set_option maxHeartbeats 4000000
set_option maxRecDepth 100000

/-! ## a bar stored into a row of the call's own -/
theorem flat_set3 (x y s : Int) : ∀ (l : List Bar) (i : Nat), i < l.length → (((l.flatMap bc).set (i * 3) (.int .i64 x)).set (i * 3 + 1) (.int .i64 y)).set (i * 3 + 2) (.int .i64 s) = (l.set i (x, y, s)).flatMap bc
  | [], i, h => by simp at h
  | b :: r, 0, _ => by simp [bc]
  | b :: r, i + 1, h => by
    have ih := flat_set3 x y s r i (by simpa using h)
    have e0 : (i + 1) * 3 = i * 3 + 3 := by omega
    have e1 : (i + 1) * 3 + 1 = i * 3 + 1 + 3 := by omega
    have e2 : (i + 1) * 3 + 2 = i * 3 + 2 + 3 := by omega
    rw [e1, e2, e0, List.flatMap_cons, List.set_cons_succ, List.flatMap_cons, ← ih]
    simp only [bc, List.cons_append, List.nil_append, List.set_cons_succ]
section
variable {P : Program} {w : World} {base g cap : Nat} {l : List Bar}
theorem own_set {e : TypeId} (h : Own bc 3 base e w (.slice (some ⟨g, 0, none⟩) l.length cap) l) {i : Nat} (hi : i < l.length) (x y s : Int) :
    Own bc 3 base e (w.setCells g (i * 3) [.int .i64 x, .int .i64 y, .int .i64 s]) (.slice (some ⟨g, 0, none⟩) l.length cap) (l.set i (x, y, s)) ∧ w.grownBy (w.setCells g (i * 3) [.int .i64 x, .int .i64 y, .int .i64 s]) (some g) := by
  obtain ⟨h1, g1⟩ := World.ownsRow.stored h (i * 3) (.int .i64 x)
  obtain ⟨h2, g2⟩ := World.ownsRow.stored h1 (i * 3 + 1) (.int .i64 y)
  obtain ⟨h3, g3⟩ := World.ownsRow.stored h2 (i * 3 + 1 + 1) (.int .i64 s)
  rw [flat_set3 x y s l i hi] at h3
  refine ⟨?_, (g1.trans g2).trans g3⟩
  unfold Own
  rw [List.length_set]
  exact h3
theorem own_there {e : TypeId} (h : Own bc 3 base e w (.slice (some ⟨g, 0, none⟩) l.length cap) l) {i : Nat} (hi : i < l.length) : w.there g (i * 3) 3 := by
  obtain ⟨hl, hc⟩ := h
  rcases hc with ⟨hv, _⟩ | ⟨g', cap', cur, hv, hg, hh, hnc, hcm, hcs, htk⟩
  · cases hv
  · obtain ⟨rfl, rfl⟩ : g = g' ∧ cap = cap' := by simpa using hv
    intro j hj
    refine ⟨?_, by simp [World.frozen?, hh]⟩
    have : i * 3 + j < cur.size := by rw [hcs]; omega
    simp [World.cell?, hh, this]
end
theorem wpList_store_own {ops : Array Oper} {rest : List Oper} {op : Oper} {a : Act} {Q : Exit → Act → World → Prop} {w : World} {base g cap n : Nat} {l : List Bar} (h : OwB base w (.slice (some ⟨g, 0, none⟩) n cap) l) (hn : l.length = n) {i : Nat} (hi : i < n) (hgd : op.guard = none) (x y : Operand) (ho : op.op = .store 70 x y)
    {p q s : Int} (hx : a.eval x = .pointer (some ⟨g, i * 3, none⟩)) (hy : a.eval y = .agg #[.int .i64 p, .int .i64 q, .int .i64 s])
    (hK : ∀ W', OwB base W' (.slice (some ⟨g, 0, none⟩) n cap) (l.set i (p, q, s)) → w.grownBy W' (some g) → wpList Tryz.prog ops Q rest (a.put op.dst undef) W') : wpList Tryz.prog ops Q (op :: rest) a w := by
  subst hn
  refine wpList_plain hgd fun K hK' => ?_
  obtain ⟨h1, h2⟩ := own_set h hi p q s
  have hr := run_storeVar_mid (P := Tryz.prog) w g (i * 3) 70 #[.int .i64 p, .int .i64 q, .int .i64 s] (own_there h hi) (by kernel_rfl) (by kernel_rfl)
  unfold Oper.wp execOp
  simp only [ho, hx, hy, Instr.storeAt, Instr.sureAddr, Sem.run_bind, Sem.run_pure, Result.andThen_ok, hr]
  exact hK' _ _ (hK _ h1 h2)
theorem run_clr {w : World} {base g cap n : Nat} {l : List Bar} (h : OwB base w (.slice (some ⟨g, 0, none⟩) n cap) l) (hn : l.length = n) (k m c : Nat) (hk : k + m ≤ n) (hm : 0 < m) (ty : TypeId) :
    ∃ W', (Builtin.clear_ #[22] ty #[.slice (some ⟨g, k * 3, none⟩) m c]).run Tryz.prog w = .ok (.tuple #[]) W' ∧ w.grownBy W' (some g) := by
  subst hn
  obtain ⟨hl, hc⟩ := h
  rcases hc with ⟨hv, _⟩ | ⟨g', cap', cur, hv, hg, hh, hnc, hcm, hcs, htk⟩
  · cases hv
  · obtain ⟨rfl, rfl⟩ : g = g' ∧ cap = cap' := by simpa using hv
    have hz : (zeroValue 70).run Tryz.prog w = .ok (.agg #[.int .i64 0, .int .i64 0, .int .i64 0]) w := by kernel_rfl
    have hsz : (Builtin.zeroCells (Value.agg #[.int .i64 0, .int .i64 0, .int .i64 0]).cells m).toList.length = m * 3 := by simp [Builtin.zeroCells, Value.cells]
    have h1 : ∀ v ∈ (Builtin.zeroCells (Value.agg #[.int .i64 0, .int .i64 0, .int .i64 0]).cells m).toList, v.oneCell' = true := by
      intro v hv
      simp only [Builtin.zeroCells, Value.cells, Array.toList_map, List.mem_map] at hv
      obtain ⟨i, _, rfl⟩ := hv
      have : i % 3 < 3 := Nat.mod_lt _ (by decide)
      show (#[Value.int .i64 0, Value.int .i64 0, Value.int .i64 0][i % 3]!).oneCell' = true
      match i % 3, this with
      | 0, _ => rfl
      | 1, _ => rfl
      | 2, _ => rfl
    obtain ⟨m, rfl⟩ : ∃ m', m = m' + 1 := ⟨m - 1, by omega⟩
    obtain ⟨cs, hst⟩ : ∃ cs, (storeCells ⟨g, k * 3, none⟩ (Builtin.zeroCells (Value.agg #[.int .i64 0, .int .i64 0, .int .i64 0]).cells (m + 1)).toList 0).run Tryz.prog w = .ok () (w.setRow g cs) :=
      ⟨_, run_storeCells_at Tryz.prog g (k * 3) 70 _ 0 cur w hh (by rw [hsz, hcs]; omega) h1⟩
    refine ⟨w.setRow g cs, ?_, rfl, rfl, rfl, by simp [World.setRow], fun k hk hne => setRow_other w g k _ (fun e => hne (by simp [e]))⟩
    unfold Builtin.clear_
    simp [run_underlying bar_elem.und, hz, hst]

/-! ## equal neighbours -/
def adjDup : List Bar → Bool
  | a :: b :: r => decide (b = a) || adjDup (b :: r)
  | _ => false
theorem adjDup_drop {l : List Bar} {k : Nat} (hk : k + 1 < l.length) : adjDup (l.drop k) = (decide (l[k + 1] = l[k]) || adjDup (l.drop (k + 1))) := by
  rw [List.drop_eq_getElem_cons (show k < l.length by omega), List.drop_eq_getElem_cons hk]; rfl
theorem adjDup_end {l : List Bar} {k : Nat} (hk : l.length ≤ k + 1) : adjDup (l.drop k) = false := by
  rcases Nat.lt_or_ge k l.length with h | h
  · rw [List.drop_eq_getElem_cons h, List.drop_eq_nil_of_le (by omega)]; rfl
  · rw [List.drop_eq_nil_of_le h]; rfl
theorem gb_of {w W : World} {row : Option Nat} (h : Below w.heap.size w W) : w.grownBy W row := ⟨h.os, h.tape, h.output, h.size, fun k hk _ => h.block k hk⟩
theorem own_cells {w : World} {base g cap n : Nat} {l : List Bar} (h : OwB base w (.slice (some ⟨g, 0, none⟩) n cap) l) {k : Nat} (hk : k < l.length) (_ : l.length = n) : g < w.heap.size ∧
    w.cell? ⟨g, k * 3, none⟩ = some (.int .i64 l[k].1) ∧ w.cell? ⟨g, k * 3 + 1, none⟩ = some (.int .i64 l[k].2.1) ∧ w.cell? ⟨g, k * 3 + 2, none⟩ = some (.int .i64 l[k].2.2) := by
  obtain ⟨A, c, he, _, _, hr⟩ := h.rd bc_len
  obtain rfl := (Value.slice.inj he).1
  obtain ⟨h0, h1, h2, h3⟩ := hr.barAt hk
  exact ⟨h0, by simpa using h1, by simpa using h2, by simpa using h3⟩
theorem compact_any {v : Value} {base : Nat} (l : List Bar) (w : World) (h : OwB base w v l) (hlen : l.length ≤ 100000) : Calls Tryz.prog 116 #[v] w
    fun e w' => ∃ A n c, e = .returned (.slice A n c) ∧ decide (n < l.length) = adjDup l ∧ w.grownBy w' v.ownBlock := by
  by_cases hsm : l.length < 2
  · have hd : Hid (adjDup l = false) := adjDup_end (k := 0) (by omega)
    have hs := Lib.hid hsm
    have hs2 : ((l.length : Int) < 2) = True := by simp; omega
    obtain ⟨A, c, rfl⟩ := h.shape
    clear hsm
    go_enter Tryz.func116, Tryz.ntmps116
    go_wp2
    go_ret
    exact ⟨A, l.length, c, rfl, by rw [hd.out]; simp, World.grownBy.refl _ _⟩
  · obtain ⟨g, cap, cur, rfl, hgb, hnc⟩ : ∃ g cap cur, v = .slice (some ⟨g, 0, none⟩) l.length cap ∧ w.heap[g]? = some (.cells cur 70 (0, 0)) ∧ l.length ≤ cap := by
      rcases h.2 with ⟨_, hn⟩ | ⟨g, cap, cur, rfl, hg, hh, hnc, _⟩
      · omega
      · exact ⟨g, cap, cur, rfl, hh, hnc⟩
    have hs2 : ((l.length : Int) < 2) = False := by simp; omega
    obtain ⟨n, hn⟩ : ∃ n, l.length = n := ⟨_, rfl⟩
    have h2n : 2 ≤ n := by omega
    rw [hn] at h hlen hs2 hnc ⊢
    have hgl : g < w.heap.size := (Array.getElem?_eq_some_iff.1 hgb).1
    have HD0 : Hid (adjDup l = adjDup (l.drop 0)) := rfl
    clear hgb hsm
    go_enter Tryz.func116, Tryz.ntmps116
    go_wp2
    go_loopw [3] (fun i wr => ∃ k : Nat, k + 1 ≤ n ∧ i = .int .i64 ((k : Int) + 1) ∧ Hid (adjDup l = adjDup (l.drop k)) ∧ Below w.heap.size w wr) (fun i _ => n - (intOf i).toNat)
    case atStart => exact ⟨0, by omega, rfl, HD0, bl_refl⟩
    case round =>
      obtain ⟨k, hk, rfl, H, hbw⟩ := hrel
      by_cases hlt : k + 1 < n
      · have how := h.below hbw
        have hk1 : k < l.length := by omega
        have hck : ¬ cap = k + 1 := by omega
        have hkt : ((k : Int) + 1 < (n : Int)) = True := by simp; omega
        have hk2 : k + 1 < l.length := by omega
        obtain ⟨c0, c1, c2, c3⟩ := own_cells how hk1 hn
        obtain ⟨_, d1, d2, d3⟩ := own_cells how hk2 hn
        have HD := Lib.hid (adjDup_drop hk2)
        obtain ⟨q, hq⟩ : ∃ q, beqB l[k + 1].1 l[k + 1].2.1 l[k + 1].2.2 l[k].1 l[k].2.1 l[k].2.2 = q := ⟨_, rfl⟩
        have hq' : decide (l[k + 1] = l[k]) = q := hq
        rw [hq'] at HD
        clear hq'
        cases q
        · go_wp2
          refine wp_region_ords [0, 1, 2, 3, 4, 5, 6, 7, 8, 9] [] [] (by kernel_rfl) (by kernel_rfl) (fun d _ _ _ _ h => by cases d <;> exact h) ?_
          simp only [List.map_cons, List.map_nil, List.getD_cons_zero, List.getD_cons_succ]
          repeat (go_big_quiet_step (fail))
          refine wpQuiet_nil ?_
          refine wpMid_nil ?_
          go_wp2
          go_roundw
          case rel => exact ⟨k + 1, by omega, by go_num, by unfold Hid; rw [H.out, HD.out]; rfl, by (repeat (first | exact bl_refl | assumption | (apply bl_then; assumption) | refine bl_alloc ?_ _ | refine bl_drew ?_ | refine bl_drewN ?_ _))⟩
          case measure => simp [intOf]; omega
        · go_wp2
          refine wp_region_ords [0, 1, 2, 3, 4, 5, 6, 7, 8, 9] [] [] (by kernel_rfl) (by kernel_rfl) (fun d _ _ _ _ h => by cases d <;> exact h) ?_
          simp only [List.map_cons, List.map_nil, List.getD_cons_zero, List.getD_cons_succ]
          repeat (go_big_quiet_step (fail))
          refine wpQuiet_nil ?_
          refine wpMid_nil ?_
          go_wp2
          have HT : Hid (adjDup l = true) := by unfold Hid; rw [H.out, HD.out]; rfl
          clear HD H hq c1 c2 c3 d1 d2 d3
          go_loopw [3, 5] (fun i j wq => ∃ (a b : Nat) (l' : List Bar), k + b + 2 ≤ n ∧ a ≤ k + b + 1 ∧ i = .int .i64 a ∧ j = .int .i64 ((b : Int) + 1) ∧ Hid (l'.length = n) ∧ OwB base wq (.slice (some ⟨g, 0, none⟩) n cap) l' ∧ w.grownBy wq (some g)) (fun _ j _ => n - (intOf j).toNat)
          case atStart => exact ⟨k + 1, 0, l, by omega, by omega, by simp, rfl, hn, how.below (bl_drew bl_refl), gb_of (bl_drew hbw)⟩
          case round =>
            obtain ⟨a, b, l', hb2, ha, rfl, rfl, HL, ho', hg'⟩ := hrel
            by_cases hlt2 : k + b + 2 < n
            · have hc1 : ((b : Int) + 1 < ((n - (k + 1) : Nat) : Int)) = True := by simp; omega
              have ho := ho'.rd bc_len
              have hi1 : k + b + 1 < l'.length := by rw [HL.out]; omega
              have hi2 : k + b + 2 < l'.length := by rw [HL.out]; omega
              obtain ⟨c0, c1, c2, c3⟩ := own_cells ho' hi1 HL.out
              obtain ⟨_, d1, d2, d3⟩ := own_cells ho' hi2 HL.out
              rw [show (k + b + 1) * 3 = (k + 1) * 3 + b * 3 by omega] at c1 c2 c3
              rw [show (k + b + 2) * 3 = (k + 1) * 3 + (b + 1) * 3 by omega] at d1 d2 d3
              obtain ⟨⟨x1, y1, s1⟩, e1⟩ : ∃ z, l'[k + b + 1] = z := ⟨_, rfl⟩
              obtain ⟨⟨x2, y2, s2⟩, e2⟩ : ∃ z, l'[k + b + 2] = z := ⟨_, rfl⟩
              rw [e1] at c1 c2 c3
              rw [e2] at d1 d2 d3
              clear e1 e2 ho
              obtain ⟨q, hq⟩ : ∃ q, beqB x2 y2 s2 x1 y1 s1 = q := ⟨_, rfl⟩
              have han : a < n := by omega
              cases q
              · go_wp2
                have hod := ho'.below (bl_drew (W := wr) bl_refl)
                refine wp_region_ords [0, 1, 2, 3, 4, 5, 6, 7, 8, 9] [] [] (by kernel_rfl) (by kernel_rfl) (fun d _ _ _ _ h => by cases d <;> exact h) ?_
                simp only [List.map_cons, List.map_nil, List.getD_cons_zero, List.getD_cons_succ]
                repeat (go_big_quiet_step (fail))
                refine wpQuiet_nil ?_
                refine wpMid_nil ?_
                go_wp2_with (refine wpList_store_own hod HL.out han rfl _ _ rfl rfl rfl ?_; intro w7 hown7 hgr7)
                go_roundw
                case rel => exact ⟨a + 1, b + 1, _, by omega, by omega, by go_num, by go_num, by unfold Hid; rw [List.length_set]; exact HL.out, hown7, (hg'.trans (gb_of (bl_drew bl_refl))).trans hgr7⟩
                case measure => simp [intOf]; omega
              · go_wp2
                refine wp_region_ords [0, 1, 2, 3, 4, 5, 6, 7, 8, 9] [] [] (by kernel_rfl) (by kernel_rfl) (fun d _ _ _ _ h => by cases d <;> exact h) ?_
                simp only [List.map_cons, List.map_nil, List.getD_cons_zero, List.getD_cons_succ]
                repeat (go_big_quiet_step (fail))
                refine wpQuiet_nil ?_
                refine wpMid_nil ?_
                go_wp2
                go_roundw
                case rel => exact ⟨a, b + 1, l', by omega, by omega, rfl, by go_num, HL, ho'.below (bl_drew bl_refl), hg'.trans (gb_of (bl_drew bl_refl))⟩
                case measure => simp [intOf]; omega
            · have hbn : k + b + 2 = n := by omega
              have hc1 : ((b : Int) + 1 < ((n - (k + 1) : Nat) : Int)) = False := by simp; omega
              have han : a ≤ n := by omega
              have hac : ¬ cap = a := by omega
              obtain ⟨W9, hclr, hgr9⟩ := run_clr ho' HL.out a (n - a) (cap - a) (by omega) (by omega) 0
              go_wp2
              go_ret
              exact ⟨some ⟨g, 0, none⟩, a, cap, rfl, by rw [HT.out]; simp; omega, hg'.trans hgr9⟩
      · have hkn : k + 1 = n := by omega
        have hd := Lib.hid (adjDup_end (l := l) (k := k) (by omega))
        go_wp2
        go_ret
        exact ⟨some ⟨g, 0, none⟩, n, cap, rfl, by rw [H.out, hd.out]; simp, gb_of hbw⟩
end Go.Proofs.YthcnngoaijgnoaaGreat

/- The bars that a walk passes, of the program, walked. Conditions: slices that read as lists. -/
namespace Go.Proofs.YthcnngoaijgnoaaGreat
open Go.RowKit Go.ChangeMaps
set_option maxHeartbeats 4000000
set_option maxRecDepth 100000

def madeE (l : List Knot) : Int := if cwE l = 0 then (if adjDup (srtB (passP l)) then 9 else 0) else cwE l
def madeL (l : List Knot) : List Bar := if madeE l = 0 then srtB (passP l) else []
theorem made_any {x : Value} (l : List Knot) (w : World) (hl : SlK w x l) : Calls Tryz.prog 62 #[x] w (RBE w (madeL l) (madeE l)) := by
  by_cases hE0 : cwE l = 0
  · have hE' : (cwE l != 0) = false := by rw [hE0]; rfl
    have hl' := cwE_len hE0
    have hpl := passP_length l
    obtain ⟨hadj, hnear⟩ := cwE_ok hE0
    have HS : Hid (madeE l = if adjDup (srtB (passP l)) then 9 else 0) := by unfold Hid madeE; rw [if_pos hE0]
    have hlp : (passP l).length ≤ 5000 := by omega
    have hls : (srtB (passP l)).length ≤ 5000 := by rw [srtB_length]; exact hlp
    clear hE0 hpl
    go_enter Tryz.func62, Tryz.ntmps62
    go_wp2_with (first | (go_at_call 113; refine (checkWalk_any l _ hl).mono ?_; rintro e w1 ⟨rfl, hb1⟩; have hl1 := hl.below hb1) |
      (go_at_call 115; refine (passed_any l _ hl1 hadj hnear (by omega)).mono ?_; rintro e w2 ⟨v2, rfl, hown2, hb2⟩) |
      (go_at_call 114; refine (sorted_any _ _ (hown2.rd bc_len) (by omega)).mono ?_; rintro e w3 ⟨v3, rfl, hown3, hb3⟩; obtain ⟨A3, c3, rfl⟩ := hown3.shape) |
      (go_at_call 103; refine (clone_any _ _ (hown3.rd bc_len) (by omega)).mono ?_; rintro e w4 ⟨v4, rfl, hown4, hb4⟩) |
      (go_at_call 116; refine (compact_any _ _ hown4 (by omega)).mono ?_; rintro e w5 ⟨A5, n5, c5, rfl, hlt5, hgr5⟩))
    all_goals
      have hb5 : Below w3.heap.size w3 w5 := bl_grown hgr5 (by (repeat (first | exact bl_refl | assumption | (apply bl_then; assumption) | refine bl_alloc ?_ _ | refine bl_drew ?_ | refine bl_drewN ?_ _))) fun k hk => (hown4.lt k hk).1
      have hown5 := hown3.below hb5
      have hb23 : Below w.heap.size w w2 := by (repeat (first | exact bl_refl | assumption | (apply bl_then; assumption) | refine bl_alloc ?_ _ | refine bl_drew ?_ | refine bl_drewN ?_ _))
    · rename_i hq
      have hz : Hid (madeE l = 9 ∧ madeL l = []) := by
        have : madeE l = 9 := by rw [HS.out, if_pos hq]
        exact ⟨this, by unfold madeL; rw [this]; rfl⟩
      go_ret2
      exact ⟨.slice none 0 0, by rw [hz.out.1]; rfl, by rw [hz.out.2]; exact Own.nil_, by (repeat (first | exact bl_refl | assumption | (apply bl_then; assumption) | refine bl_alloc ?_ _ | refine bl_drew ?_ | refine bl_drewN ?_ _))⟩
    · rename_i hq
      have hz : Hid (madeE l = 0 ∧ madeL l = srtB (passP l)) := by
        have : madeE l = 0 := by rw [HS.out, if_neg (by rw [hq]; decide)]
        exact ⟨this, by unfold madeL; rw [if_pos this]⟩
      go_ret2
      exact ⟨_, by rw [hz.out.1]; rfl, by rw [hz.out.2]; exact hown5.base_mono hb23.size, by (repeat (first | exact bl_refl | assumption | (apply bl_then; assumption) | refine bl_alloc ?_ _ | refine bl_drew ?_ | refine bl_drewN ?_ _))⟩
  · have hE' : (cwE l != 0) = true := by simpa using hE0
    have HS : Hid (madeE l = cwE l ∧ madeL l = []) := by
      have : madeE l = cwE l := by unfold madeE; rw [if_neg hE0]
      exact ⟨this, by unfold madeL; rw [this, if_neg hE0]⟩
    clear hE0
    go_enter Tryz.func62, Tryz.ntmps62
    go_wp2_with (go_at_call 113; refine (checkWalk_any l _ hl).mono ?_; rintro e w1 ⟨rfl, hb1⟩)
    go_ret2
    exact ⟨.slice none 0 0, by rw [HS.out.1]; rfl, by rw [HS.out.2]; exact Own.nil_, by (repeat (first | exact bl_refl | assumption | (apply bl_then; assumption) | refine bl_alloc ?_ _ | refine bl_drew ?_ | refine bl_drewN ?_ _))⟩
end Go.Proofs.YthcnngoaijgnoaaGreat

/- The kinds of a knot: their list, and which one holds, of the program, walked. Conditions: none. -/
namespace Go.Proofs.YthcnngoaijgnoaaGreat
open Go.RowKit Go.ChangeMaps
set_option maxHeartbeats 4000000
set_option maxRecDepth 100000

/-- the names of the kinds -/
def kby : Nat → ByteArray
  | 0 => { data := #[116, 104, 114, 101, 101] }
  | 1 => { data := #[111, 100, 100] }
  | 2 => { data := #[110, 101, 119] }
  | 3 => { data := #[115, 105, 100, 101, 114] }
  | 4 => { data := #[112, 105, 99, 107] }
  | _ => { data := #[99, 114, 111, 115, 115] }
abbrev kstr (i : Nat) : Value := .string (kby i)
def kholds (L : Legs) : Nat → Bool
  | 0 => cnt L == 1
  | 1 => cnt L == 3
  | 2 => cnt L == 4
  | 3 => L.1 == L.2.2.1 && L.2.1 == L.2.2.2
  | 4 => L.1 == L.2.1 && L.2.2.1 == L.2.2.2
  | _ => cnt L == 2
/-- the first kind that holds -/
def kixFrom (L : Legs) : Nat → Nat → Nat
  | 0, _ => 5
  | f + 1, i => if kholds L i then i else kixFrom L f (i + 1)
def kix (L : Legs) : Nat := kixFrom L 6 0
theorem kix_lt : ∀ a b c d, kix (a, b, c, d) < 6 ∧ kholds (a, b, c, d) (kix (a, b, c, d)) = true ∧ (List.range (kix (a, b, c, d))).all (fun i => !kholds (a, b, c, d) i) = true := by decide

theorem eqlB_any (n : Int) (m : Nat) : ((m : Int) == n) = decide ((m : Int) = n) := by
  rw [Bool.eq_iff_iff]; simp
theorem lacks_any (n : Int) (w : World) : Calls Tryz.prog 136 #[.int .i64 n] w fun e w' => ∃ p, e = .returned (.func (.func 137) #[] #[.pointer (some ⟨p, 0, none⟩)]) ∧ w.heap.size ≤ p ∧ Blk w' p 3 #[.int .i64 n] ∧ Below w.heap.size w w' := by
  have hB := Blk.new w 3 #[.int .i64 n]
  go_enter Tryz.func136, Tryz.ntmps136
  go_wp2
  go_ret
  exact ⟨_, rfl, Nat.le_refl _, hB, by (repeat (first | exact bl_refl | assumption | (apply bl_then; assumption) | refine bl_alloc ?_ _ | refine bl_drew ?_ | refine bl_drewN ?_ _))⟩
theorem k137_any (a b c d : Bool) (n : Int) (p : Nat) (w : World) (h : Blk w p 3 #[.int .i64 n]) : Calls Tryz.prog 137 #[lb a b c d, .pointer (some ⟨p, 0, none⟩)] w (RV w (.bool (((cnt (a, b, c, d) : Nat) : Int) == n))) := by
  have hB := Blk.new w 107 #[.bool a, .bool b, .bool c, .bool d]
  have hp := h.alloc (.cells #[.bool a, .bool b, .bool c, .bool d] 107)
  have fB := hB.facts
  have fp := hp.facts
  have fp0 := h.facts
  go_enter Tryz.func137, Tryz.ntmps137
  go_wp2
  refine wp_region_ords [0, 2] [(1, false)] [3, 4] (by kernel_rfl) (by kernel_rfl) (fun d _ _ _ _ h => by cases d <;> exact h) ?_
  simp only [List.map_cons, List.map_nil, List.getD_cons_zero, List.getD_cons_succ]
  repeat (go_big_quiet_step (fail))
  refine wpQuiet_nil ?_
  refine wpMid_run rfl (fun K hK => ?_)
  go_simp
  refine (count_any a b c d _).mono ?_
  rintro e w1 ⟨rfl, hb1⟩
  refine hK _ _ (by (repeat (first | exact bl_refl | assumption | (apply bl_then; assumption) | refine bl_alloc ?_ _ | refine bl_drew ?_ | refine bl_drewN ?_ _))) ?_
  clear hK K
  refine wpMid_nil ?_
  go_wp2
  go_ret
  exact ⟨rfl, by (repeat (first | exact bl_refl | assumption | (apply bl_then; assumption) | refine bl_alloc ?_ _ | refine bl_drew ?_ | refine bl_drewN ?_ _))⟩
theorem k138_any (a b c d : Bool) (w : World) : Calls Tryz.prog 138 #[lb a b c d] w (RV w (.bool (a == c && b == d))) := by
  have hB := Blk.new w 107 #[.bool a, .bool b, .bool c, .bool d]
  have fB := hB.facts
  cases a <;> cases b <;> cases c <;> cases d
  all_goals
    go_enter Tryz.func138, Tryz.ntmps138
    go_wp2
    go_ret
    exact ⟨rfl, by (repeat (first | exact bl_refl | assumption | (apply bl_then; assumption) | refine bl_alloc ?_ _ | refine bl_drew ?_ | refine bl_drewN ?_ _))⟩
theorem k139_any (a b c d : Bool) (w : World) : Calls Tryz.prog 139 #[lb a b c d] w (RV w (.bool (a == b && c == d))) := by
  have hB := Blk.new w 107 #[.bool a, .bool b, .bool c, .bool d]
  have fB := hB.facts
  cases a <;> cases b <;> cases c <;> cases d
  all_goals
    go_enter Tryz.func139, Tryz.ntmps139
    go_wp2
    go_ret
    exact ⟨rfl, by (repeat (first | exact bl_refl | assumption | (apply bl_then; assumption) | refine bl_alloc ?_ _ | refine bl_drew ?_ | refine bl_drewN ?_ _))⟩

/-- the list of kinds, at block b -/
structure KindsAt (w : World) (b : Nat) (p0 p1 p2 p5 : Nat) : Prop where
  b : Blk w b 132 #[kstr 0, .func (.func 137) #[] #[.pointer (some ⟨p0, 0, none⟩)], kstr 1, .func (.func 137) #[] #[.pointer (some ⟨p1, 0, none⟩)], kstr 2, .func (.func 137) #[] #[.pointer (some ⟨p2, 0, none⟩)],
    kstr 3, .func (.func 138) #[] #[], kstr 4, .func (.func 139) #[] #[], kstr 5, .func (.func 137) #[] #[.pointer (some ⟨p5, 0, none⟩)]]
  n0 : Blk w p0 3 #[.int .i64 1]
  n1 : Blk w p1 3 #[.int .i64 3]
  n2 : Blk w p2 3 #[.int .i64 4]
  n5 : Blk w p5 3 #[.int .i64 2]
theorem kinds_any (w : World) : Calls Tryz.prog 92 #[] w fun e w' => ∃ b p0 p1 p2 p5, e = .returned (.slice (some ⟨b, 0, none⟩) 6 6) ∧ w.heap.size ≤ b ∧ w.heap.size ≤ p0 ∧ w.heap.size ≤ p1 ∧ w.heap.size ≤ p2 ∧ w.heap.size ≤ p5 ∧ KindsAt w' b p0 p1 p2 p5 ∧ Below w.heap.size w w' := by
  go_enter Tryz.func92, Tryz.ntmps92
  go_wp2_with fail
  refine (lacks_any _ _).mono ?_
  rintro e w1 ⟨p0, rfl, h0, n0, hb1⟩
  go_wp2_with fail
  refine (lacks_any _ _).mono ?_
  rintro e w2 ⟨p1, rfl, h1, n1, hb2⟩
  replace n0 := n0.below hb2
  go_wp2_with fail
  refine (lacks_any _ _).mono ?_
  rintro e w3 ⟨p2, rfl, h2, n2, hb3⟩
  replace n0 := n0.below hb3
  replace n1 := n1.below hb3
  go_wp2_with fail
  refine (lacks_any _ _).mono ?_
  rintro e w4 ⟨p5, rfl, h5, n5, hb4⟩
  replace n0 := n0.below hb4
  replace n1 := n1.below hb4
  replace n2 := n2.below hb4
  go_wp2
  go_ret
  have z1 := hb1.size
  have z2 := hb2.size
  have z3 := hb3.size
  have z4 := hb4.size
  exact ⟨_, p0, p1, p2, p5, rfl, by omega, by omega, by omega, by omega, by omega, ⟨Blk.new w4 _ _, n0.alloc _, n1.alloc _, n2.alloc _, n5.alloc _⟩, by (repeat (first | exact bl_refl | assumption | (apply bl_then; assumption) | refine bl_alloc ?_ _ | refine bl_drew ?_ | refine bl_drewN ?_ _))⟩
end Go.Proofs.YthcnngoaijgnoaaGreat

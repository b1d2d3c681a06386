/- Sound, Odd, Ready, Run, Bound, Missing and Walk of the program, walked. Conditions: the slices read as lists. -/
import Derived.Test.YthcnngoaijgnoaaGreatK05
import Derived.WalkSpells
namespace Go.Proofs.YthcnngoaijgnoaaGreat
open Go.RowKit Go.ChangeMaps
set_option maxHeartbeats 4000000
set_option maxRecDepth 100000

/-- a row of bars .. of knots, and an error -/
def RBE (w : World) (l : List Bar) (n : Int) (e : Ending) (w' : World) : Prop := ∃ v, e = .returned (.tuple #[v, .int .i64 n]) ∧ OwB w.heap.size w' v l ∧ Below w.heap.size w w'
def RKE (w : World) (l : List Knot) (n : Int) (e : Ending) (w' : World) : Prop := ∃ v, e = .returned (.tuple #[v, .int .i64 n]) ∧ OwK w.heap.size w' v l ∧ Below w.heap.size w w'
def soundL (N D : List Bar) : List Bar := if tornE N D = 0 then wout N D else []
def oddR (N D : List Bar) : List Knot := if tornE N D = 0 then oddK D else []
def readyR (N D : List Bar) : Bool := if tornE N D = 0 then rdyB D else false
def noneE (N D : List Bar) : Int := firstI [tornE N D, whenI (decide (D.length = 0)) 7]
def runE (N D : List Bar) : Int := if noneE N D = 0 then whenI (!rdyB D) 18 else noneE N D
def runL (N D : List Bar) : List Knot := if noneE N D = 0 then (runO D).getD [] else []
def boundN (D : List Bar) : Int := if (oddK D).length = 0 then 1 else (((oddK D).length : Int) - 2).tdiv 2
def boundR (N D : List Bar) : Int := if noneE N D = 0 then boundN D else 0
def twoE (N D : List Bar) (k : Knot) : Int := firstI [tornE N D, knotE k.1 k.2]
def missR (N D : List Bar) (k : Knot) : Int := if twoE N D k = 0 then (missN D k : Int) else 0
def walkE (N D : List Bar) (k : Knot) : Int := if twoE N D k = 0 then whenI (!(missN D k == 1)) 18 else twoE N D k
def walkR (N D : List Bar) (k : Knot) : List Knot := if walkE N D k = 0 then walkL D k else []
theorem firstI_zero {a b : Int} (h : firstI [a, b] = 0) : a = 0 ∧ b = 0 := by
  unfold firstI firstI firstI at h
  split at h
  · rename_i h1
    split at h
    · rename_i h2; exact ⟨h1, h2⟩
    · rename_i h2; exact absurd h h2
  · rename_i h1; exact absurd h h1
structure TornOk (N D : List Bar) : Prop where
  net : NetOk N
  dam : NetOk D
  sub : ∀ b ∈ D, b ∈ N
theorem torn_ok {N D : List Bar} (h : tornE N D = 0) : TornOk N D := ⟨(tornE_ok h).1, (tornE_ok h).2.1, (tornE_ok h).2.2⟩
theorem TornOk.lens {N D : List Bar} (h : TornOk N D) : N.length ≤ 100000 ∧ D.length ≤ 100000 := by
  have h1 := h.net.len
  have h2 := h.dam.len
  omega

theorem sound_any {v u : Value} (N D : List Bar) (w : World) (hN : SlB w v N) (hD : SlB w u D) : Calls Tryz.prog 43 #[.agg #[v, u]] w (RBE w (soundL N D) (tornE N D)) := by
  have hB := Blk.new w 32 #[v, u]
  have hN0 := hN.alloc (.cells #[v, u] 32)
  have hD0 := hD.alloc (.cells #[v, u] 32)
  by_cases hE : tornE N D = 0
  · have hok := torn_ok hE
    have hE' : (tornE N D != 0) = false := by simp [hE]
    have HS : Hid (soundL N D = wout N D ∧ tornE N D = 0) := by unfold Hid soundL; rw [if_pos hE]; exact ⟨rfl, hE⟩
    clear hE
    go_enter Tryz.func43, Tryz.ntmps43
    go_wp2_with (first | (go_at_call 57; refine (mtorn_any N D _ hN0 hD0).mono ?_; rintro e w1 ⟨rfl, hb1⟩; (first | replace hB := hB.st0 hb1 | replace hB := hB.st1 hb1 | replace hB := hB.std hb1 | replace hB := hB.std1 hb1 | replace hB := hB.st2 hb1 | replace hB := hB.std2 hb1 | replace hB := hB.st3 hb1); have kB := hB.facts; (first | replace hN0 := hN0.st0 hb1 | replace hN0 := hN0.st1 hb1 | replace hN0 := hN0.std hb1 | replace hN0 := hN0.std1 hb1 | replace hN0 := hN0.st2 hb1 | replace hN0 := hN0.std2 hb1 | replace hN0 := hN0.st3 hb1); (first | replace hD0 := hD0.st0 hb1 | replace hD0 := hD0.st1 hb1 | replace hD0 := hD0.std hb1 | replace hD0 := hD0.std1 hb1 | replace hD0 := hD0.st2 hb1 | replace hD0 := hD0.std2 hb1 | replace hD0 := hD0.st3 hb1)) | (go_at_call 97; refine (without_any N D _ hN0 hD0 hok.lens.1).mono ?_; rintro e w2 ⟨v2, rfl, hown2, hb2⟩))
    go_ret2
    exact ⟨_, by rw [HS.out.2]; rfl, by rw [HS.out.1]; exact hown2.base_mono (by have := (bl_a hb1).size; omega), by (repeat (first | exact bl_refl | assumption | (apply bl_then; assumption) | refine bl_alloc ?_ _ | refine bl_drew ?_ | refine bl_drewN ?_ _))⟩
  · have hE' : (tornE N D != 0) = true := by simpa using hE
    have HS : Hid (soundL N D = []) := by unfold Hid soundL; rw [if_neg hE]
    clear hE
    go_enter Tryz.func43, Tryz.ntmps43
    go_wp2_with (go_at_call 57; refine (mtorn_any N D _ hN0 hD0).mono ?_; rintro e w1 ⟨rfl, hb1⟩; (first | replace hB := hB.st0 hb1 | replace hB := hB.st1 hb1 | replace hB := hB.std hb1 | replace hB := hB.std1 hb1 | replace hB := hB.st2 hb1 | replace hB := hB.std2 hb1 | replace hB := hB.st3 hb1); have kB := hB.facts; (first | replace hN0 := hN0.st0 hb1 | replace hN0 := hN0.st1 hb1 | replace hN0 := hN0.std hb1 | replace hN0 := hN0.std1 hb1 | replace hN0 := hN0.st2 hb1 | replace hN0 := hN0.std2 hb1 | replace hN0 := hN0.st3 hb1); (first | replace hD0 := hD0.st0 hb1 | replace hD0 := hD0.st1 hb1 | replace hD0 := hD0.std hb1 | replace hD0 := hD0.std1 hb1 | replace hD0 := hD0.st2 hb1 | replace hD0 := hD0.std2 hb1 | replace hD0 := hD0.st3 hb1))
    go_ret2
    exact ⟨_, rfl, by rw [HS.out]; exact Own.nil_, by (repeat (first | exact bl_refl | assumption | (apply bl_then; assumption) | refine bl_alloc ?_ _ | refine bl_drew ?_ | refine bl_drewN ?_ _))⟩
theorem podd_any {v u : Value} (N D : List Bar) (w : World) (hN : SlB w v N) (hD : SlB w u D) : Calls Tryz.prog 42 #[.agg #[v, u]] w (RKE w (oddR N D) (tornE N D)) := by
  have hB := Blk.new w 32 #[v, u]
  have hN0 := hN.alloc (.cells #[v, u] 32)
  have hD0 := hD.alloc (.cells #[v, u] 32)
  by_cases hE : tornE N D = 0
  · have hok := torn_ok hE
    have hE' : (tornE N D != 0) = false := by simp [hE]
    have HS : Hid (oddR N D = oddK D ∧ tornE N D = 0) := by unfold Hid oddR; rw [if_pos hE]; exact ⟨rfl, hE⟩
    clear hE
    go_enter Tryz.func42, Tryz.ntmps42
    go_wp2_with (first | (go_at_call 57; refine (mtorn_any N D _ hN0 hD0).mono ?_; rintro e w1 ⟨rfl, hb1⟩; (first | replace hB := hB.st0 hb1 | replace hB := hB.st1 hb1 | replace hB := hB.std hb1 | replace hB := hB.std1 hb1 | replace hB := hB.st2 hb1 | replace hB := hB.std2 hb1 | replace hB := hB.st3 hb1); have kB := hB.facts; (first | replace hN0 := hN0.st0 hb1 | replace hN0 := hN0.st1 hb1 | replace hN0 := hN0.std hb1 | replace hN0 := hN0.std1 hb1 | replace hN0 := hN0.st2 hb1 | replace hN0 := hN0.std2 hb1 | replace hN0 := hN0.st3 hb1); (first | replace hD0 := hD0.st0 hb1 | replace hD0 := hD0.st1 hb1 | replace hD0 := hD0.std hb1 | replace hD0 := hD0.std1 hb1 | replace hD0 := hD0.st2 hb1 | replace hD0 := hD0.std2 hb1 | replace hD0 := hD0.st3 hb1)) | (go_at_call 77; refine (newHole_any D _ hD0 hok.dam.nodup hok.dam.ok).mono ?_; rintro e w2 ⟨h, rb, rk, rfl, _, _, _, H2, hb2⟩) |
      (go_at_call 106; refine (hodd_any _ _ _ D _ H2 (fun b hb => (hok.dam.ok b hb).2.2) hok.lens.2).mono ?_; rintro e w3 ⟨v3, rfl, hown3, hb3⟩))
    go_ret2
    exact ⟨_, by rw [HS.out.2]; rfl, by rw [HS.out.1]; exact hown3.base_mono (by have := (bl_a hb1).size; have := hb2.size; omega), by (repeat (first | exact bl_refl | assumption | (apply bl_then; assumption) | refine bl_alloc ?_ _ | refine bl_drew ?_ | refine bl_drewN ?_ _))⟩
  · have hE' : (tornE N D != 0) = true := by simpa using hE
    have HS : Hid (oddR N D = []) := by unfold Hid oddR; rw [if_neg hE]
    clear hE
    go_enter Tryz.func42, Tryz.ntmps42
    go_wp2_with (go_at_call 57; refine (mtorn_any N D _ hN0 hD0).mono ?_; rintro e w1 ⟨rfl, hb1⟩; (first | replace hB := hB.st0 hb1 | replace hB := hB.st1 hb1 | replace hB := hB.std hb1 | replace hB := hB.std1 hb1 | replace hB := hB.st2 hb1 | replace hB := hB.std2 hb1 | replace hB := hB.st3 hb1); have kB := hB.facts; (first | replace hN0 := hN0.st0 hb1 | replace hN0 := hN0.st1 hb1 | replace hN0 := hN0.std hb1 | replace hN0 := hN0.std1 hb1 | replace hN0 := hN0.st2 hb1 | replace hN0 := hN0.std2 hb1 | replace hN0 := hN0.st3 hb1); (first | replace hD0 := hD0.st0 hb1 | replace hD0 := hD0.st1 hb1 | replace hD0 := hD0.std hb1 | replace hD0 := hD0.std1 hb1 | replace hD0 := hD0.st2 hb1 | replace hD0 := hD0.std2 hb1 | replace hD0 := hD0.st3 hb1))
    go_ret2
    exact ⟨_, rfl, by rw [HS.out]; exact Own.nil_, by (repeat (first | exact bl_refl | assumption | (apply bl_then; assumption) | refine bl_alloc ?_ _ | refine bl_drew ?_ | refine bl_drewN ?_ _))⟩
theorem pready_any {v u : Value} (N D : List Bar) (w : World) (hN : SlB w v N) (hD : SlB w u D) : Calls Tryz.prog 17 #[.agg #[v, u]] w (RV w (.tuple #[.bool (readyR N D), .int .i64 (tornE N D)])) := by
  have hB := Blk.new w 32 #[v, u]
  have hN0 := hN.alloc (.cells #[v, u] 32)
  have hD0 := hD.alloc (.cells #[v, u] 32)
  by_cases hE : tornE N D = 0
  · have hok := torn_ok hE
    have hE' : (tornE N D != 0) = false := by simp [hE]
    have HS : Hid (readyR N D = rdyB D ∧ tornE N D = 0) := by unfold Hid readyR; rw [if_pos hE]; exact ⟨rfl, hE⟩
    clear hE
    go_enter Tryz.func17, Tryz.ntmps17
    go_wp2_with (first | (go_at_call 57; refine (mtorn_any N D _ hN0 hD0).mono ?_; rintro e w1 ⟨rfl, hb1⟩; (first | replace hB := hB.st0 hb1 | replace hB := hB.st1 hb1 | replace hB := hB.std hb1 | replace hB := hB.std1 hb1 | replace hB := hB.st2 hb1 | replace hB := hB.std2 hb1 | replace hB := hB.st3 hb1); have kB := hB.facts; (first | replace hN0 := hN0.st0 hb1 | replace hN0 := hN0.st1 hb1 | replace hN0 := hN0.std hb1 | replace hN0 := hN0.std1 hb1 | replace hN0 := hN0.st2 hb1 | replace hN0 := hN0.std2 hb1 | replace hN0 := hN0.st3 hb1); (first | replace hD0 := hD0.st0 hb1 | replace hD0 := hD0.st1 hb1 | replace hD0 := hD0.std hb1 | replace hD0 := hD0.std1 hb1 | replace hD0 := hD0.st2 hb1 | replace hD0 := hD0.std2 hb1 | replace hD0 := hD0.st3 hb1)) | (go_at_call 77; refine (newHole_any D _ hD0 hok.dam.nodup hok.dam.ok).mono ?_; rintro e w2 ⟨h, rb, rk, rfl, _, _, _, H2, hb2⟩) |
      (go_at_call 78; refine (ready_any _ _ _ D _ H2 hok.dam.ok hok.lens.2).mono ?_; rintro e w3 ⟨rfl, hb3⟩))
    go_ret2
    exact ⟨by rw [HS.out.1, HS.out.2]; rfl, by (repeat (first | exact bl_refl | assumption | (apply bl_then; assumption) | refine bl_alloc ?_ _ | refine bl_drew ?_ | refine bl_drewN ?_ _))⟩
  · have hE' : (tornE N D != 0) = true := by simpa using hE
    have HS : Hid (readyR N D = false) := by unfold Hid readyR; rw [if_neg hE]
    clear hE
    go_enter Tryz.func17, Tryz.ntmps17
    go_wp2_with (go_at_call 57; refine (mtorn_any N D _ hN0 hD0).mono ?_; rintro e w1 ⟨rfl, hb1⟩; (first | replace hB := hB.st0 hb1 | replace hB := hB.st1 hb1 | replace hB := hB.std hb1 | replace hB := hB.std1 hb1 | replace hB := hB.st2 hb1 | replace hB := hB.std2 hb1 | replace hB := hB.st3 hb1); have kB := hB.facts; (first | replace hN0 := hN0.st0 hb1 | replace hN0 := hN0.st1 hb1 | replace hN0 := hN0.std hb1 | replace hN0 := hN0.std1 hb1 | replace hN0 := hN0.st2 hb1 | replace hN0 := hN0.std2 hb1 | replace hN0 := hN0.st3 hb1); (first | replace hD0 := hD0.st0 hb1 | replace hD0 := hD0.st1 hb1 | replace hD0 := hD0.std hb1 | replace hD0 := hD0.std1 hb1 | replace hD0 := hD0.st2 hb1 | replace hD0 := hD0.std2 hb1 | replace hD0 := hD0.st3 hb1))
    go_ret2
    exact ⟨by rw [HS.out]; rfl, by (repeat (first | exact bl_refl | assumption | (apply bl_then; assumption) | refine bl_alloc ?_ _ | refine bl_drew ?_ | refine bl_drewN ?_ _))⟩

theorem noneE_ok {N D : List Bar} (h : noneE N D = 0) : TornOk N D ∧ D ≠ [] := by
  obtain ⟨h1, h2⟩ := firstI_zero h
  refine ⟨torn_ok h1, fun e => ?_⟩
  rw [e] at h2
  cases h2
theorem twoE_ok {N D : List Bar} {k : Knot} (h : twoE N D k = 0) : TornOk N D ∧ knotE k.1 k.2 = 0 := by
  obtain ⟨h1, h2⟩ := firstI_zero h
  exact ⟨torn_ok h1, h2⟩
theorem none_form (N D : List Bar) : firstI [tornE N D, whenI ((D.length : Int) == 0) 7] = noneE N D := by
  have : (((D.length : Int) == 0) : Bool) = decide (D.length = 0) := by rw [Bool.eq_iff_iff]; simp
  rw [this]; rfl
theorem prun_any {v u : Value} (N D : List Bar) (w : World) (hN : SlB w v N) (hD : SlB w u D) : Calls Tryz.prog 20 #[.agg #[v, u]] w (RKE w (runL N D) (runE N D)) := by
  have hB := Blk.new w 32 #[v, u]
  have hN0 := hN.alloc (.cells #[v, u] 32)
  have hD0 := hD.alloc (.cells #[v, u] 32)
  obtain ⟨A, c, rfl, hlc, hcm, hr⟩ := hD
  have hE : Hid (firstI [tornE N D, whenI ((D.length : Int) == 0) 7] = noneE N D) := none_form N D
  clear hr
  by_cases hE0 : noneE N D = 0
  · obtain ⟨hok, hne⟩ := noneE_ok hE0
    have hE' : (firstI [tornE N D, whenI ((D.length : Int) == 0) 7] != 0) = false := by rw [hE.out, hE0]; rfl
    have HS : Hid (runL N D = (runO D).getD [] ∧ runE N D = whenI (!rdyB D) 18) := by unfold Hid runL runE; rw [if_pos hE0, if_pos hE0]; exact ⟨rfl, rfl⟩
    obtain ⟨q, hq⟩ : ∃ q, (runO D).isSome = q := ⟨_, rfl⟩
    have hrn := fun W (hW : HoleAt W W.heap.size 0 0 D) => hW
    have hrun := fun h rb rk W (hW : HoleAt W h rb rk D) => run_any h rb rk D W hW hok.dam.ok hok.lens.2
    rw [hq] at hrun
    have HQ : Hid (rdyB D = q) := hq
    clear hE0 hne hrn
    go_enter Tryz.func20, Tryz.ntmps20
    go_wp2
    refine wp_region_ords [0, 2, 3, 4, 5] [(1, false)] [6, 7, 8, 9] (by kernel_rfl) (by kernel_rfl) (fun d _ _ _ _ h => by cases d <;> exact h) ?_
    simp only [List.map_cons, List.map_nil, List.getD_cons_zero, List.getD_cons_succ]
    repeat (go_big_quiet_step (fail))
    refine wpQuiet_nil ?_
    refine wpMid_run rfl (fun K hK => ?_)
    go_simp
    refine (mtorn_any N D _ hN0.drew hD0.drew).mono ?_
    rintro e w1 ⟨rfl, hb1⟩
    refine hK _ _ (by (repeat (first | exact bl_refl | assumption | (apply bl_then; assumption) | refine bl_alloc ?_ _ | refine bl_drew ?_ | refine bl_drewN ?_ _))) ?_
    clear hK K
    (first | replace hB := hB.st0 hb1 | replace hB := hB.st1 hb1 | replace hB := hB.std hb1 | replace hB := hB.std1 hb1 | replace hB := hB.st2 hb1 | replace hB := hB.std2 hb1 | replace hB := hB.st3 hb1)
    have kB := hB.facts
    (first | replace hN0 := hN0.st0 hb1 | replace hN0 := hN0.st1 hb1 | replace hN0 := hN0.std hb1 | replace hN0 := hN0.std1 hb1 | replace hN0 := hN0.st2 hb1 | replace hN0 := hN0.std2 hb1 | replace hN0 := hN0.st3 hb1)
    (first | replace hD0 := hD0.st0 hb1 | replace hD0 := hD0.st1 hb1 | replace hD0 := hD0.std hb1 | replace hD0 := hD0.std1 hb1 | replace hD0 := hD0.st2 hb1 | replace hD0 := hD0.std2 hb1 | replace hD0 := hD0.st3 hb1)
    refine wpMid_nil ?_
    cases q
    · go_wp2_with (first | (go_at_call 83; refine (mwhen_any _ _ _).mono ?_; rintro e w2 ⟨rfl, hb2⟩; (first | replace hB := hB.st0 hb2 | replace hB := hB.st1 hb2 | replace hB := hB.std hb2 | replace hB := hB.std1 hb2 | replace hB := hB.st2 hb2 | replace hB := hB.std2 hb2 | replace hB := hB.st3 hb2); have kB := hB.facts; (first | replace hN0 := hN0.st0 hb2 | replace hN0 := hN0.st1 hb2 | replace hN0 := hN0.std hb2 | replace hN0 := hN0.std1 hb2 | replace hN0 := hN0.st2 hb2 | replace hN0 := hN0.std2 hb2 | replace hN0 := hN0.st3 hb2); (first | replace hD0 := hD0.st0 hb2 | replace hD0 := hD0.st1 hb2 | replace hD0 := hD0.std hb2 | replace hD0 := hD0.std1 hb2 | replace hD0 := hD0.st2 hb2 | replace hD0 := hD0.std2 hb2 | replace hD0 := hD0.st3 hb2)) | (go_at_call 79; refine (mfirst_any [tornE N D, whenI ((D.length : Int) == 0) 7] _ _ _ (by simp [maxLen]) (Rd.ints2 (by simp) (by go_simp) (by go_simp))).mono ?_; rintro e w3 ⟨rfl, hb3⟩; (first | replace hB := hB.st0 hb3 | replace hB := hB.st1 hb3 | replace hB := hB.std hb3 | replace hB := hB.std1 hb3 | replace hB := hB.st2 hb3 | replace hB := hB.std2 hb3 | replace hB := hB.st3 hb3); have kB := hB.facts; (first | replace hN0 := hN0.st0 hb3 | replace hN0 := hN0.st1 hb3 | replace hN0 := hN0.std hb3 | replace hN0 := hN0.std1 hb3 | replace hN0 := hN0.st2 hb3 | replace hN0 := hN0.std2 hb3 | replace hN0 := hN0.st3 hb3); (first | replace hD0 := hD0.st0 hb3 | replace hD0 := hD0.st1 hb3 | replace hD0 := hD0.std hb3 | replace hD0 := hD0.std1 hb3 | replace hD0 := hD0.st2 hb3 | replace hD0 := hD0.std2 hb3 | replace hD0 := hD0.st3 hb3)) | (go_at_call 77; refine (newHole_any D _ hD0 hok.dam.nodup hok.dam.ok).mono ?_; rintro e w4 ⟨h, rb, rk, rfl, _, _, _, H4, hb4⟩) |
        (go_at_call 84; refine (hrun _ _ _ _ H4).mono ?_; rintro e w5 ⟨v5, rfl, hown5, hb5⟩))
      go_ret2
      refine ⟨.slice none 0 0, by rw [HS.out.2, HQ.out]; rfl, ?_, by (repeat (first | exact bl_refl | assumption | (apply bl_then; assumption) | refine bl_alloc ?_ _ | refine bl_drew ?_ | refine bl_drewN ?_ _))⟩
      have : runO D = none := by have := HQ.out; unfold rdyB at this; simpa using this
      rw [HS.out.1, this]; exact Own.nil_
    · go_wp2_with (first | (go_at_call 83; refine (mwhen_any _ _ _).mono ?_; rintro e w2 ⟨rfl, hb2⟩; (first | replace hB := hB.st0 hb2 | replace hB := hB.st1 hb2 | replace hB := hB.std hb2 | replace hB := hB.std1 hb2 | replace hB := hB.st2 hb2 | replace hB := hB.std2 hb2 | replace hB := hB.st3 hb2); have kB := hB.facts; (first | replace hN0 := hN0.st0 hb2 | replace hN0 := hN0.st1 hb2 | replace hN0 := hN0.std hb2 | replace hN0 := hN0.std1 hb2 | replace hN0 := hN0.st2 hb2 | replace hN0 := hN0.std2 hb2 | replace hN0 := hN0.st3 hb2); (first | replace hD0 := hD0.st0 hb2 | replace hD0 := hD0.st1 hb2 | replace hD0 := hD0.std hb2 | replace hD0 := hD0.std1 hb2 | replace hD0 := hD0.st2 hb2 | replace hD0 := hD0.std2 hb2 | replace hD0 := hD0.st3 hb2)) | (go_at_call 79; refine (mfirst_any [tornE N D, whenI ((D.length : Int) == 0) 7] _ _ _ (by simp [maxLen]) (Rd.ints2 (by simp) (by go_simp) (by go_simp))).mono ?_; rintro e w3 ⟨rfl, hb3⟩; (first | replace hB := hB.st0 hb3 | replace hB := hB.st1 hb3 | replace hB := hB.std hb3 | replace hB := hB.std1 hb3 | replace hB := hB.st2 hb3 | replace hB := hB.std2 hb3 | replace hB := hB.st3 hb3); have kB := hB.facts; (first | replace hN0 := hN0.st0 hb3 | replace hN0 := hN0.st1 hb3 | replace hN0 := hN0.std hb3 | replace hN0 := hN0.std1 hb3 | replace hN0 := hN0.st2 hb3 | replace hN0 := hN0.std2 hb3 | replace hN0 := hN0.st3 hb3); (first | replace hD0 := hD0.st0 hb3 | replace hD0 := hD0.st1 hb3 | replace hD0 := hD0.std hb3 | replace hD0 := hD0.std1 hb3 | replace hD0 := hD0.st2 hb3 | replace hD0 := hD0.std2 hb3 | replace hD0 := hD0.st3 hb3)) | (go_at_call 77; refine (newHole_any D _ hD0 hok.dam.nodup hok.dam.ok).mono ?_; rintro e w4 ⟨h, rb, rk, rfl, _, _, _, H4, hb4⟩) |
        (go_at_call 84; refine (hrun _ _ _ _ H4).mono ?_; rintro e w5 ⟨v5, rfl, hown5, hb5⟩))
      go_ret2
      have hbw4 : Below w.heap.size w w4 := by (repeat (first | exact bl_refl | assumption | (apply bl_then; assumption) | refine bl_alloc ?_ _ | refine bl_drew ?_ | refine bl_drewN ?_ _))
      exact ⟨v5, by rw [HS.out.2, HQ.out]; rfl, by rw [HS.out.1]; exact hown5.base_mono hbw4.size, by (repeat (first | exact bl_refl | assumption | (apply bl_then; assumption) | refine bl_alloc ?_ _ | refine bl_drew ?_ | refine bl_drewN ?_ _))⟩
  · have hE' : (firstI [tornE N D, whenI ((D.length : Int) == 0) 7] != 0) = true := by rw [hE.out]; simpa using hE0
    have HS : Hid (runL N D = [] ∧ runE N D = noneE N D) := by unfold Hid runL runE; rw [if_neg hE0, if_neg hE0]; exact ⟨rfl, rfl⟩
    clear hE0
    go_enter Tryz.func20, Tryz.ntmps20
    go_wp2
    refine wp_region_ords [0, 2, 3, 4, 5] [(1, false)] [6, 7, 8, 9] (by kernel_rfl) (by kernel_rfl) (fun d _ _ _ _ h => by cases d <;> exact h) ?_
    simp only [List.map_cons, List.map_nil, List.getD_cons_zero, List.getD_cons_succ]
    repeat (go_big_quiet_step (fail))
    refine wpQuiet_nil ?_
    refine wpMid_run rfl (fun K hK => ?_)
    go_simp
    refine (mtorn_any N D _ hN0.drew hD0.drew).mono ?_
    rintro e w1 ⟨rfl, hb1⟩
    refine hK _ _ (by (repeat (first | exact bl_refl | assumption | (apply bl_then; assumption) | refine bl_alloc ?_ _ | refine bl_drew ?_ | refine bl_drewN ?_ _))) ?_
    clear hK K
    (first | replace hB := hB.st0 hb1 | replace hB := hB.st1 hb1 | replace hB := hB.std hb1 | replace hB := hB.std1 hb1 | replace hB := hB.st2 hb1 | replace hB := hB.std2 hb1 | replace hB := hB.st3 hb1)
    have kB := hB.facts
    (first | replace hN0 := hN0.st0 hb1 | replace hN0 := hN0.st1 hb1 | replace hN0 := hN0.std hb1 | replace hN0 := hN0.std1 hb1 | replace hN0 := hN0.st2 hb1 | replace hN0 := hN0.std2 hb1 | replace hN0 := hN0.st3 hb1)
    (first | replace hD0 := hD0.st0 hb1 | replace hD0 := hD0.st1 hb1 | replace hD0 := hD0.std hb1 | replace hD0 := hD0.std1 hb1 | replace hD0 := hD0.st2 hb1 | replace hD0 := hD0.std2 hb1 | replace hD0 := hD0.st3 hb1)
    refine wpMid_nil ?_
    go_wp2_with (first | (go_at_call 83; refine (mwhen_any _ _ _).mono ?_; rintro e w2 ⟨rfl, hb2⟩; (first | replace hB := hB.st0 hb2 | replace hB := hB.st1 hb2 | replace hB := hB.std hb2 | replace hB := hB.std1 hb2 | replace hB := hB.st2 hb2 | replace hB := hB.std2 hb2 | replace hB := hB.st3 hb2); have kB := hB.facts; (first | replace hN0 := hN0.st0 hb2 | replace hN0 := hN0.st1 hb2 | replace hN0 := hN0.std hb2 | replace hN0 := hN0.std1 hb2 | replace hN0 := hN0.st2 hb2 | replace hN0 := hN0.std2 hb2 | replace hN0 := hN0.st3 hb2); (first | replace hD0 := hD0.st0 hb2 | replace hD0 := hD0.st1 hb2 | replace hD0 := hD0.std hb2 | replace hD0 := hD0.std1 hb2 | replace hD0 := hD0.st2 hb2 | replace hD0 := hD0.std2 hb2 | replace hD0 := hD0.st3 hb2)) | (go_at_call 79; refine (mfirst_any [tornE N D, whenI ((D.length : Int) == 0) 7] _ _ _ (by simp [maxLen]) (Rd.ints2 (by simp) (by go_simp) (by go_simp))).mono ?_; rintro e w3 ⟨rfl, hb3⟩; (first | replace hB := hB.st0 hb3 | replace hB := hB.st1 hb3 | replace hB := hB.std hb3 | replace hB := hB.std1 hb3 | replace hB := hB.st2 hb3 | replace hB := hB.std2 hb3 | replace hB := hB.st3 hb3); have kB := hB.facts; (first | replace hN0 := hN0.st0 hb3 | replace hN0 := hN0.st1 hb3 | replace hN0 := hN0.std hb3 | replace hN0 := hN0.std1 hb3 | replace hN0 := hN0.st2 hb3 | replace hN0 := hN0.std2 hb3 | replace hN0 := hN0.st3 hb3); (first | replace hD0 := hD0.st0 hb3 | replace hD0 := hD0.st1 hb3 | replace hD0 := hD0.std hb3 | replace hD0 := hD0.std1 hb3 | replace hD0 := hD0.st2 hb3 | replace hD0 := hD0.std2 hb3 | replace hD0 := hD0.st3 hb3)))
    go_ret2
    exact ⟨.slice none 0 0, by rw [HS.out.2, ← hE.out]; rfl, by rw [HS.out.1]; exact Own.nil_, by (repeat (first | exact bl_refl | assumption | (apply bl_then; assumption) | refine bl_alloc ?_ _ | refine bl_drew ?_ | refine bl_drewN ?_ _))⟩
theorem pbound_any {v u : Value} (N D : List Bar) (w : World) (hN : SlB w v N) (hD : SlB w u D) : Calls Tryz.prog 53 #[.agg #[v, u]] w (RV w (.tuple #[.int .i64 (boundR N D), .int .i64 (noneE N D)])) := by
  have hB := Blk.new w 32 #[v, u]
  have hN0 := hN.alloc (.cells #[v, u] 32)
  have hD0 := hD.alloc (.cells #[v, u] 32)
  obtain ⟨A, c, rfl, hlc, hcm, hr⟩ := hD
  have hE : Hid (firstI [tornE N D, whenI ((D.length : Int) == 0) 7] = noneE N D) := none_form N D
  clear hr
  by_cases hE0 : noneE N D = 0
  · obtain ⟨hok, hne⟩ := noneE_ok hE0
    have hE' : (firstI [tornE N D, whenI ((D.length : Int) == 0) 7] != 0) = false := by rw [hE.out, hE0]; rfl
    have HS : Hid (boundR N D = boundN D ∧ noneE N D = 0) := by unfold Hid boundR; rw [if_pos hE0]; exact ⟨rfl, hE0⟩
    have hol : (oddK D).length ≤ 200000 := by
      have := holeK_len D
      have e : (oddK D).length ≤ (holeK D).length := List.length_filter_le _ _
      have := hok.lens.2
      omega
    obtain ⟨od, hod⟩ : ∃ od, oddK D = od := ⟨_, rfl⟩
    have hodd := fun h rb rk W (hW : HoleAt W h rb rk D) => hodd_any h rb rk D W hW (fun b hb => (hok.dam.ok b hb).2.2) hok.lens.2
    rw [hod] at hodd hol
    have HO := Lib.hid hod
    clear hE0 hne hod
    by_cases hz : od.length = 0
    · have hz' : (((od.length : Int)) == 0) = true := by simp [hz]
      have HB : Hid (boundN D = 1) := by unfold Hid boundN; rw [HO.out, if_pos hz]
      clear hz
      go_enter Tryz.func53, Tryz.ntmps53
      go_wp2
      refine wp_region_ords [0, 2, 3, 4, 5] [(1, false)] [6, 7, 8, 9] (by kernel_rfl) (by kernel_rfl) (fun d _ _ _ _ h => by cases d <;> exact h) ?_
      simp only [List.map_cons, List.map_nil, List.getD_cons_zero, List.getD_cons_succ]
      repeat (go_big_quiet_step (fail))
      refine wpQuiet_nil ?_
      refine wpMid_run rfl (fun K hK => ?_)
      go_simp
      refine (mtorn_any N D _ hN0.drew hD0.drew).mono ?_
      rintro e w1 ⟨rfl, hb1⟩
      refine hK _ _ (by (repeat (first | exact bl_refl | assumption | (apply bl_then; assumption) | refine bl_alloc ?_ _ | refine bl_drew ?_ | refine bl_drewN ?_ _))) ?_
      clear hK K
      (first | replace hB := hB.st0 hb1 | replace hB := hB.st1 hb1 | replace hB := hB.std hb1 | replace hB := hB.std1 hb1 | replace hB := hB.st2 hb1 | replace hB := hB.std2 hb1 | replace hB := hB.st3 hb1)
      have kB := hB.facts
      (first | replace hN0 := hN0.st0 hb1 | replace hN0 := hN0.st1 hb1 | replace hN0 := hN0.std hb1 | replace hN0 := hN0.std1 hb1 | replace hN0 := hN0.st2 hb1 | replace hN0 := hN0.std2 hb1 | replace hN0 := hN0.st3 hb1)
      (first | replace hD0 := hD0.st0 hb1 | replace hD0 := hD0.st1 hb1 | replace hD0 := hD0.std hb1 | replace hD0 := hD0.std1 hb1 | replace hD0 := hD0.st2 hb1 | replace hD0 := hD0.std2 hb1 | replace hD0 := hD0.st3 hb1)
      refine wpMid_nil ?_
      go_wp2_with (first | (go_at_call 83; refine (mwhen_any _ _ _).mono ?_; rintro e w2 ⟨rfl, hb2⟩; (first | replace hB := hB.st0 hb2 | replace hB := hB.st1 hb2 | replace hB := hB.std hb2 | replace hB := hB.std1 hb2 | replace hB := hB.st2 hb2 | replace hB := hB.std2 hb2 | replace hB := hB.st3 hb2); have kB := hB.facts; (first | replace hN0 := hN0.st0 hb2 | replace hN0 := hN0.st1 hb2 | replace hN0 := hN0.std hb2 | replace hN0 := hN0.std1 hb2 | replace hN0 := hN0.st2 hb2 | replace hN0 := hN0.std2 hb2 | replace hN0 := hN0.st3 hb2); (first | replace hD0 := hD0.st0 hb2 | replace hD0 := hD0.st1 hb2 | replace hD0 := hD0.std hb2 | replace hD0 := hD0.std1 hb2 | replace hD0 := hD0.st2 hb2 | replace hD0 := hD0.std2 hb2 | replace hD0 := hD0.st3 hb2)) | (go_at_call 79; refine (mfirst_any [tornE N D, whenI ((D.length : Int) == 0) 7] _ _ _ (by simp [maxLen]) (Rd.ints2 (by simp) (by go_simp) (by go_simp))).mono ?_; rintro e w3 ⟨rfl, hb3⟩; (first | replace hB := hB.st0 hb3 | replace hB := hB.st1 hb3 | replace hB := hB.std hb3 | replace hB := hB.std1 hb3 | replace hB := hB.st2 hb3 | replace hB := hB.std2 hb3 | replace hB := hB.st3 hb3); have kB := hB.facts; (first | replace hN0 := hN0.st0 hb3 | replace hN0 := hN0.st1 hb3 | replace hN0 := hN0.std hb3 | replace hN0 := hN0.std1 hb3 | replace hN0 := hN0.st2 hb3 | replace hN0 := hN0.std2 hb3 | replace hN0 := hN0.st3 hb3); (first | replace hD0 := hD0.st0 hb3 | replace hD0 := hD0.st1 hb3 | replace hD0 := hD0.std hb3 | replace hD0 := hD0.std1 hb3 | replace hD0 := hD0.st2 hb3 | replace hD0 := hD0.std2 hb3 | replace hD0 := hD0.st3 hb3)) | (go_at_call 77; refine (newHole_any D _ hD0 hok.dam.nodup hok.dam.ok).mono ?_; rintro e w4 ⟨h, rb, rk, rfl, _, _, _, H4, hb4⟩) |
        (go_at_call 106; refine (hodd _ _ _ _ H4).mono ?_; rintro e w5 ⟨v5, rfl, hown5, hb5⟩; obtain ⟨A5, c5, rfl⟩ := hown5.shape))
      go_ret2
      exact ⟨by rw [HS.out.1, HS.out.2, HB.out]; rfl, by (repeat (first | exact bl_refl | assumption | (apply bl_then; assumption) | refine bl_alloc ?_ _ | refine bl_drew ?_ | refine bl_drewN ?_ _))⟩
    · have hz' : (((od.length : Int)) == 0) = false := by simp; exact fun e => hz (by simp [e])
      have HB : Hid (boundN D = ((od.length : Int) - 2).tdiv 2) := by unfold Hid boundN; rw [HO.out, if_neg hz]
      clear hz
      go_enter Tryz.func53, Tryz.ntmps53
      go_wp2
      refine wp_region_ords [0, 2, 3, 4, 5] [(1, false)] [6, 7, 8, 9] (by kernel_rfl) (by kernel_rfl) (fun d _ _ _ _ h => by cases d <;> exact h) ?_
      simp only [List.map_cons, List.map_nil, List.getD_cons_zero, List.getD_cons_succ]
      repeat (go_big_quiet_step (fail))
      refine wpQuiet_nil ?_
      refine wpMid_run rfl (fun K hK => ?_)
      go_simp
      refine (mtorn_any N D _ hN0.drew hD0.drew).mono ?_
      rintro e w1 ⟨rfl, hb1⟩
      refine hK _ _ (by (repeat (first | exact bl_refl | assumption | (apply bl_then; assumption) | refine bl_alloc ?_ _ | refine bl_drew ?_ | refine bl_drewN ?_ _))) ?_
      clear hK K
      (first | replace hB := hB.st0 hb1 | replace hB := hB.st1 hb1 | replace hB := hB.std hb1 | replace hB := hB.std1 hb1 | replace hB := hB.st2 hb1 | replace hB := hB.std2 hb1 | replace hB := hB.st3 hb1)
      have kB := hB.facts
      (first | replace hN0 := hN0.st0 hb1 | replace hN0 := hN0.st1 hb1 | replace hN0 := hN0.std hb1 | replace hN0 := hN0.std1 hb1 | replace hN0 := hN0.st2 hb1 | replace hN0 := hN0.std2 hb1 | replace hN0 := hN0.st3 hb1)
      (first | replace hD0 := hD0.st0 hb1 | replace hD0 := hD0.st1 hb1 | replace hD0 := hD0.std hb1 | replace hD0 := hD0.std1 hb1 | replace hD0 := hD0.st2 hb1 | replace hD0 := hD0.std2 hb1 | replace hD0 := hD0.st3 hb1)
      refine wpMid_nil ?_
      go_wp2_with (first | (go_at_call 83; refine (mwhen_any _ _ _).mono ?_; rintro e w2 ⟨rfl, hb2⟩; (first | replace hB := hB.st0 hb2 | replace hB := hB.st1 hb2 | replace hB := hB.std hb2 | replace hB := hB.std1 hb2 | replace hB := hB.st2 hb2 | replace hB := hB.std2 hb2 | replace hB := hB.st3 hb2); have kB := hB.facts; (first | replace hN0 := hN0.st0 hb2 | replace hN0 := hN0.st1 hb2 | replace hN0 := hN0.std hb2 | replace hN0 := hN0.std1 hb2 | replace hN0 := hN0.st2 hb2 | replace hN0 := hN0.std2 hb2 | replace hN0 := hN0.st3 hb2); (first | replace hD0 := hD0.st0 hb2 | replace hD0 := hD0.st1 hb2 | replace hD0 := hD0.std hb2 | replace hD0 := hD0.std1 hb2 | replace hD0 := hD0.st2 hb2 | replace hD0 := hD0.std2 hb2 | replace hD0 := hD0.st3 hb2)) | (go_at_call 79; refine (mfirst_any [tornE N D, whenI ((D.length : Int) == 0) 7] _ _ _ (by simp [maxLen]) (Rd.ints2 (by simp) (by go_simp) (by go_simp))).mono ?_; rintro e w3 ⟨rfl, hb3⟩; (first | replace hB := hB.st0 hb3 | replace hB := hB.st1 hb3 | replace hB := hB.std hb3 | replace hB := hB.std1 hb3 | replace hB := hB.st2 hb3 | replace hB := hB.std2 hb3 | replace hB := hB.st3 hb3); have kB := hB.facts; (first | replace hN0 := hN0.st0 hb3 | replace hN0 := hN0.st1 hb3 | replace hN0 := hN0.std hb3 | replace hN0 := hN0.std1 hb3 | replace hN0 := hN0.st2 hb3 | replace hN0 := hN0.std2 hb3 | replace hN0 := hN0.st3 hb3); (first | replace hD0 := hD0.st0 hb3 | replace hD0 := hD0.st1 hb3 | replace hD0 := hD0.std hb3 | replace hD0 := hD0.std1 hb3 | replace hD0 := hD0.st2 hb3 | replace hD0 := hD0.std2 hb3 | replace hD0 := hD0.st3 hb3)) | (go_at_call 77; refine (newHole_any D _ hD0 hok.dam.nodup hok.dam.ok).mono ?_; rintro e w4 ⟨h, rb, rk, rfl, _, _, _, H4, hb4⟩) |
        (go_at_call 106; refine (hodd _ _ _ _ H4).mono ?_; rintro e w5 ⟨v5, rfl, hown5, hb5⟩; obtain ⟨A5, c5, rfl⟩ := hown5.shape))
      go_ret2
      exact ⟨by rw [HS.out.1, HS.out.2, HB.out]; rfl, by (repeat (first | exact bl_refl | assumption | (apply bl_then; assumption) | refine bl_alloc ?_ _ | refine bl_drew ?_ | refine bl_drewN ?_ _))⟩
  · have hE' : (firstI [tornE N D, whenI ((D.length : Int) == 0) 7] != 0) = true := by rw [hE.out]; simpa using hE0
    have HS : Hid (boundR N D = 0) := by unfold Hid boundR; rw [if_neg hE0]
    clear hE0
    go_enter Tryz.func53, Tryz.ntmps53
    go_wp2
    refine wp_region_ords [0, 2, 3, 4, 5] [(1, false)] [6, 7, 8, 9] (by kernel_rfl) (by kernel_rfl) (fun d _ _ _ _ h => by cases d <;> exact h) ?_
    simp only [List.map_cons, List.map_nil, List.getD_cons_zero, List.getD_cons_succ]
    repeat (go_big_quiet_step (fail))
    refine wpQuiet_nil ?_
    refine wpMid_run rfl (fun K hK => ?_)
    go_simp
    refine (mtorn_any N D _ hN0.drew hD0.drew).mono ?_
    rintro e w1 ⟨rfl, hb1⟩
    refine hK _ _ (by (repeat (first | exact bl_refl | assumption | (apply bl_then; assumption) | refine bl_alloc ?_ _ | refine bl_drew ?_ | refine bl_drewN ?_ _))) ?_
    clear hK K
    (first | replace hB := hB.st0 hb1 | replace hB := hB.st1 hb1 | replace hB := hB.std hb1 | replace hB := hB.std1 hb1 | replace hB := hB.st2 hb1 | replace hB := hB.std2 hb1 | replace hB := hB.st3 hb1)
    have kB := hB.facts
    (first | replace hN0 := hN0.st0 hb1 | replace hN0 := hN0.st1 hb1 | replace hN0 := hN0.std hb1 | replace hN0 := hN0.std1 hb1 | replace hN0 := hN0.st2 hb1 | replace hN0 := hN0.std2 hb1 | replace hN0 := hN0.st3 hb1)
    (first | replace hD0 := hD0.st0 hb1 | replace hD0 := hD0.st1 hb1 | replace hD0 := hD0.std hb1 | replace hD0 := hD0.std1 hb1 | replace hD0 := hD0.st2 hb1 | replace hD0 := hD0.std2 hb1 | replace hD0 := hD0.st3 hb1)
    refine wpMid_nil ?_
    go_wp2_with (first | (go_at_call 83; refine (mwhen_any _ _ _).mono ?_; rintro e w2 ⟨rfl, hb2⟩; (first | replace hB := hB.st0 hb2 | replace hB := hB.st1 hb2 | replace hB := hB.std hb2 | replace hB := hB.std1 hb2 | replace hB := hB.st2 hb2 | replace hB := hB.std2 hb2 | replace hB := hB.st3 hb2); have kB := hB.facts; (first | replace hN0 := hN0.st0 hb2 | replace hN0 := hN0.st1 hb2 | replace hN0 := hN0.std hb2 | replace hN0 := hN0.std1 hb2 | replace hN0 := hN0.st2 hb2 | replace hN0 := hN0.std2 hb2 | replace hN0 := hN0.st3 hb2); (first | replace hD0 := hD0.st0 hb2 | replace hD0 := hD0.st1 hb2 | replace hD0 := hD0.std hb2 | replace hD0 := hD0.std1 hb2 | replace hD0 := hD0.st2 hb2 | replace hD0 := hD0.std2 hb2 | replace hD0 := hD0.st3 hb2)) | (go_at_call 79; refine (mfirst_any [tornE N D, whenI ((D.length : Int) == 0) 7] _ _ _ (by simp [maxLen]) (Rd.ints2 (by simp) (by go_simp) (by go_simp))).mono ?_; rintro e w3 ⟨rfl, hb3⟩; (first | replace hB := hB.st0 hb3 | replace hB := hB.st1 hb3 | replace hB := hB.std hb3 | replace hB := hB.std1 hb3 | replace hB := hB.st2 hb3 | replace hB := hB.std2 hb3 | replace hB := hB.st3 hb3); have kB := hB.facts; (first | replace hN0 := hN0.st0 hb3 | replace hN0 := hN0.st1 hb3 | replace hN0 := hN0.std hb3 | replace hN0 := hN0.std1 hb3 | replace hN0 := hN0.st2 hb3 | replace hN0 := hN0.std2 hb3 | replace hN0 := hN0.st3 hb3); (first | replace hD0 := hD0.st0 hb3 | replace hD0 := hD0.st1 hb3 | replace hD0 := hD0.std hb3 | replace hD0 := hD0.std1 hb3 | replace hD0 := hD0.st2 hb3 | replace hD0 := hD0.std2 hb3 | replace hD0 := hD0.st3 hb3)))
    go_ret2
    exact ⟨by rw [HS.out, ← hE.out]; rfl, by (repeat (first | exact bl_refl | assumption | (apply bl_then; assumption) | refine bl_alloc ?_ _ | refine bl_drew ?_ | refine bl_drewN ?_ _))⟩
end Go.Proofs.YthcnngoaijgnoaaGreat

/- Missing, Walk, Seam, CheckPatch, Inner and CheckTrim of the program, walked. Conditions: the slices read as lists. -/
namespace Go.Proofs.YthcnngoaijgnoaaGreat
open Go.RowKit Go.ChangeMaps
set_option maxHeartbeats 4000000
set_option maxRecDepth 100000

theorem hole_look {w : World} {h rb rk : Nat} {D : List Bar} (H : HoleAt w h rb rk D) (x y : Int) :
    (Instr.lookup 109 (.map (some rk)) (.agg #[.int .i64 x, .int .i64 y]) false).run Tryz.prog w = .ok (.agg #[.bool (legsAt D (x, y)).1, .bool (legsAt D (x, y)).2.1, .bool (legsAt D (x, y)).2.2.1, .bool (legsAt D (x, y)).2.2.2]) w := by
  obtain ⟨mk, ck, hm, _, gk⟩ := H.knots
  rw [look_legs hm x y, gk (x, y), legsO_getD]; rfl
theorem pmissing_any {v u : Value} (N D : List Bar) (x y : Int) (w : World) (hN : SlB w v N) (hD : SlB w u D) : Calls Tryz.prog 52 #[.agg #[v, u], .agg #[.int .i64 x, .int .i64 y]] w (RV w (.tuple #[.int .i64 (missR N D (x, y)), .int .i64 (twoE N D (x, y))])) := by
  have hB := (Blk.new w 32 #[v, u]).alloc (.cells #[.int .i64 x, .int .i64 y] 26)
  have hBk := Blk.new1 w (.cells #[v, u] 32) 26 #[.int .i64 x, .int .i64 y]
  have hN0 := (hN.alloc (.cells #[v, u] 32)).alloc (.cells #[.int .i64 x, .int .i64 y] 26)
  have hD0 := (hD.alloc (.cells #[v, u] 32)).alloc (.cells #[.int .i64 x, .int .i64 y] 26)
  by_cases hE0 : twoE N D (x, y) = 0
  · obtain ⟨hok, hkn⟩ := twoE_ok hE0
    have hE' : (firstI [tornE N D, knotE x y] != 0) = false := by
      have : firstI [tornE N D, knotE x y] = 0 := hE0
      rw [this]; rfl
    have HS : Hid (missR N D (x, y) = (missN D (x, y) : Int) ∧ twoE N D (x, y) = 0) := by unfold Hid missR; rw [if_pos hE0]; exact ⟨rfl, hE0⟩
    obtain ⟨⟨l0, l1, l2, l3⟩, hL⟩ : ∃ L, legsAt D (x, y) = L := ⟨_, rfl⟩
    have HM : Hid (missN D (x, y) = cnt (l0, l1, l2, l3)) := by unfold Hid missN; rw [hL]
    have hlk := fun h rb rk W (hW : HoleAt W h rb rk D) => hole_look hW x y
    rw [hL] at hlk
    clear hE0 hkn hL
    go_enter Tryz.func52, Tryz.ntmps52
    go_wp2
    refine wp_region_ords [0, 2] [(1, false)] [3, 4, 5, 6] (by kernel_rfl) (by kernel_rfl) (fun d _ _ _ _ h => by cases d <;> exact h) ?_
    simp only [List.map_cons, List.map_nil, List.getD_cons_zero, List.getD_cons_succ]
    repeat (go_big_quiet_step (fail))
    refine wpQuiet_nil ?_
    refine wpMid_run rfl (fun K hK => ?_)
    go_simp
    refine (mtorn_any N D _ hN0.drew hD0.drew).mono ?_
    rintro e w1 ⟨rfl, hb1⟩
    refine hK _ _ (by (repeat (first | exact bl_refl | assumption | (apply bl_then; assumption) | refine bl_alloc ?_ _ | refine bl_drew ?_ | refine bl_drewN ?_ _))) ?_
    clear hK K
    (first | replace hB := hB.st0 hb1 | replace hB := hB.st1 hb1 | replace hB := hB.std hb1 | replace hB := hB.std1 hb1 | replace hB := hB.st2 hb1 | replace hB := hB.std2 hb1 | replace hB := hB.st3 hb1)
    have kB := hB.facts
    (first | replace hBk := hBk.st0 hb1 | replace hBk := hBk.st1 hb1 | replace hBk := hBk.std hb1 | replace hBk := hBk.std1 hb1 | replace hBk := hBk.st2 hb1 | replace hBk := hBk.std2 hb1 | replace hBk := hBk.st3 hb1)
    have kBk := hBk.facts
    (first | replace hN0 := hN0.st0 hb1 | replace hN0 := hN0.st1 hb1 | replace hN0 := hN0.std hb1 | replace hN0 := hN0.std1 hb1 | replace hN0 := hN0.st2 hb1 | replace hN0 := hN0.std2 hb1 | replace hN0 := hN0.st3 hb1)
    (first | replace hD0 := hD0.st0 hb1 | replace hD0 := hD0.st1 hb1 | replace hD0 := hD0.std hb1 | replace hD0 := hD0.std1 hb1 | replace hD0 := hD0.st2 hb1 | replace hD0 := hD0.std2 hb1 | replace hD0 := hD0.st3 hb1)
    refine wpMid_nil ?_
    go_wp2_with (first | (go_at_call 80; refine (nknot_any x y _).mono ?_; rintro e w2 ⟨rfl, hb2⟩; (first | replace hB := hB.st0 hb2 | replace hB := hB.st1 hb2 | replace hB := hB.std hb2 | replace hB := hB.std1 hb2 | replace hB := hB.st2 hb2 | replace hB := hB.std2 hb2 | replace hB := hB.st3 hb2); have kB := hB.facts; (first | replace hBk := hBk.st0 hb2 | replace hBk := hBk.st1 hb2 | replace hBk := hBk.std hb2 | replace hBk := hBk.std1 hb2 | replace hBk := hBk.st2 hb2 | replace hBk := hBk.std2 hb2 | replace hBk := hBk.st3 hb2); have kBk := hBk.facts; (first | replace hN0 := hN0.st0 hb2 | replace hN0 := hN0.st1 hb2 | replace hN0 := hN0.std hb2 | replace hN0 := hN0.std1 hb2 | replace hN0 := hN0.st2 hb2 | replace hN0 := hN0.std2 hb2 | replace hN0 := hN0.st3 hb2); (first | replace hD0 := hD0.st0 hb2 | replace hD0 := hD0.st1 hb2 | replace hD0 := hD0.std hb2 | replace hD0 := hD0.std1 hb2 | replace hD0 := hD0.st2 hb2 | replace hD0 := hD0.std2 hb2 | replace hD0 := hD0.st3 hb2)) | (go_at_call 79; refine (mfirst_any [tornE N D, knotE x y] _ _ _ (by simp [maxLen]) (Rd.ints2 (by simp) (by go_simp) (by go_simp))).mono ?_; rintro e w3 ⟨rfl, hb3⟩; (first | replace hB := hB.st0 hb3 | replace hB := hB.st1 hb3 | replace hB := hB.std hb3 | replace hB := hB.std1 hb3 | replace hB := hB.st2 hb3 | replace hB := hB.std2 hb3 | replace hB := hB.st3 hb3); have kB := hB.facts; (first | replace hBk := hBk.st0 hb3 | replace hBk := hBk.st1 hb3 | replace hBk := hBk.std hb3 | replace hBk := hBk.std1 hb3 | replace hBk := hBk.st2 hb3 | replace hBk := hBk.std2 hb3 | replace hBk := hBk.st3 hb3); have kBk := hBk.facts; (first | replace hN0 := hN0.st0 hb3 | replace hN0 := hN0.st1 hb3 | replace hN0 := hN0.std hb3 | replace hN0 := hN0.std1 hb3 | replace hN0 := hN0.st2 hb3 | replace hN0 := hN0.std2 hb3 | replace hN0 := hN0.st3 hb3); (first | replace hD0 := hD0.st0 hb3 | replace hD0 := hD0.st1 hb3 | replace hD0 := hD0.std hb3 | replace hD0 := hD0.std1 hb3 | replace hD0 := hD0.st2 hb3 | replace hD0 := hD0.std2 hb3 | replace hD0 := hD0.st3 hb3)))
    refine wp_region_ords [0, 1, 6] [(2, false), (3, false), (4, false), (5, false)] [7, 8, 9, 10] (by kernel_rfl) (by kernel_rfl) (fun d _ _ _ _ h => by cases d <;> exact h) ?_
    simp only [List.map_cons, List.map_nil, List.getD_cons_zero, List.getD_cons_succ]
    repeat (go_big_quiet_step (fail))
    refine wpQuiet_nil ?_
    refine wpMid_run rfl (fun K hK => ?_)
    go_simp
    refine (newHole_any D _ hD0.drew hok.dam.nodup hok.dam.ok).mono ?_
    rintro e w4 ⟨h, rb, rk, rfl, _, _, _, H4, hb4⟩
    refine hK _ _ (by (repeat (first | exact bl_refl | assumption | (apply bl_then; assumption) | refine bl_alloc ?_ _ | refine bl_drew ?_ | refine bl_drewN ?_ _))) ?_
    clear hK K
    have f4 := H4.blk.facts
    have hlk4 := hlk _ _ _ _ H4
    refine wpMid_run rfl (fun K hK => ?_)
    go_simp
    refine hK _ _ (by (repeat (first | exact bl_refl | assumption | (apply bl_then; assumption) | refine bl_alloc ?_ _ | refine bl_drew ?_ | refine bl_drewN ?_ _))) ?_
    clear hK K
    refine wpMid_run rfl (fun K hK => ?_)
    go_simp
    refine hK _ _ (by (repeat (first | exact bl_refl | assumption | (apply bl_then; assumption) | refine bl_alloc ?_ _ | refine bl_drew ?_ | refine bl_drewN ?_ _))) ?_
    clear hK K
    refine wpMid_run rfl (fun K hK => ?_)
    go_simp
    refine hK _ _ (by (repeat (first | exact bl_refl | assumption | (apply bl_then; assumption) | refine bl_alloc ?_ _ | refine bl_drew ?_ | refine bl_drewN ?_ _))) ?_
    clear hK K
    refine wpMid_nil ?_
    go_wp2_with (go_at_call 81; refine (count_any l0 l1 l2 l3 _).mono ?_; rintro e w5 ⟨rfl, hb5⟩)
    go_ret2
    exact ⟨by rw [HS.out.1, HS.out.2, HM.out]; rfl, by (repeat (first | exact bl_refl | assumption | (apply bl_then; assumption) | refine bl_alloc ?_ _ | refine bl_drew ?_ | refine bl_drewN ?_ _))⟩
  · have hE' : (firstI [tornE N D, knotE x y] != 0) = true := by
      have : firstI [tornE N D, knotE x y] ≠ 0 := hE0
      simpa using this
    have HS : Hid (missR N D (x, y) = 0) := by unfold Hid missR; rw [if_neg hE0]
    clear hE0
    go_enter Tryz.func52, Tryz.ntmps52
    go_wp2
    refine wp_region_ords [0, 2] [(1, false)] [3, 4, 5, 6] (by kernel_rfl) (by kernel_rfl) (fun d _ _ _ _ h => by cases d <;> exact h) ?_
    simp only [List.map_cons, List.map_nil, List.getD_cons_zero, List.getD_cons_succ]
    repeat (go_big_quiet_step (fail))
    refine wpQuiet_nil ?_
    refine wpMid_run rfl (fun K hK => ?_)
    go_simp
    refine (mtorn_any N D _ hN0.drew hD0.drew).mono ?_
    rintro e w1 ⟨rfl, hb1⟩
    refine hK _ _ (by (repeat (first | exact bl_refl | assumption | (apply bl_then; assumption) | refine bl_alloc ?_ _ | refine bl_drew ?_ | refine bl_drewN ?_ _))) ?_
    clear hK K
    (first | replace hB := hB.st0 hb1 | replace hB := hB.st1 hb1 | replace hB := hB.std hb1 | replace hB := hB.std1 hb1 | replace hB := hB.st2 hb1 | replace hB := hB.std2 hb1 | replace hB := hB.st3 hb1)
    have kB := hB.facts
    (first | replace hBk := hBk.st0 hb1 | replace hBk := hBk.st1 hb1 | replace hBk := hBk.std hb1 | replace hBk := hBk.std1 hb1 | replace hBk := hBk.st2 hb1 | replace hBk := hBk.std2 hb1 | replace hBk := hBk.st3 hb1)
    have kBk := hBk.facts
    (first | replace hN0 := hN0.st0 hb1 | replace hN0 := hN0.st1 hb1 | replace hN0 := hN0.std hb1 | replace hN0 := hN0.std1 hb1 | replace hN0 := hN0.st2 hb1 | replace hN0 := hN0.std2 hb1 | replace hN0 := hN0.st3 hb1)
    (first | replace hD0 := hD0.st0 hb1 | replace hD0 := hD0.st1 hb1 | replace hD0 := hD0.std hb1 | replace hD0 := hD0.std1 hb1 | replace hD0 := hD0.st2 hb1 | replace hD0 := hD0.std2 hb1 | replace hD0 := hD0.st3 hb1)
    refine wpMid_nil ?_
    go_wp2_with (first | (go_at_call 80; refine (nknot_any x y _).mono ?_; rintro e w2 ⟨rfl, hb2⟩; (first | replace hB := hB.st0 hb2 | replace hB := hB.st1 hb2 | replace hB := hB.std hb2 | replace hB := hB.std1 hb2 | replace hB := hB.st2 hb2 | replace hB := hB.std2 hb2 | replace hB := hB.st3 hb2); have kB := hB.facts; (first | replace hBk := hBk.st0 hb2 | replace hBk := hBk.st1 hb2 | replace hBk := hBk.std hb2 | replace hBk := hBk.std1 hb2 | replace hBk := hBk.st2 hb2 | replace hBk := hBk.std2 hb2 | replace hBk := hBk.st3 hb2); have kBk := hBk.facts; (first | replace hN0 := hN0.st0 hb2 | replace hN0 := hN0.st1 hb2 | replace hN0 := hN0.std hb2 | replace hN0 := hN0.std1 hb2 | replace hN0 := hN0.st2 hb2 | replace hN0 := hN0.std2 hb2 | replace hN0 := hN0.st3 hb2); (first | replace hD0 := hD0.st0 hb2 | replace hD0 := hD0.st1 hb2 | replace hD0 := hD0.std hb2 | replace hD0 := hD0.std1 hb2 | replace hD0 := hD0.st2 hb2 | replace hD0 := hD0.std2 hb2 | replace hD0 := hD0.st3 hb2)) | (go_at_call 79; refine (mfirst_any [tornE N D, knotE x y] _ _ _ (by simp [maxLen]) (Rd.ints2 (by simp) (by go_simp) (by go_simp))).mono ?_; rintro e w3 ⟨rfl, hb3⟩; (first | replace hB := hB.st0 hb3 | replace hB := hB.st1 hb3 | replace hB := hB.std hb3 | replace hB := hB.std1 hb3 | replace hB := hB.st2 hb3 | replace hB := hB.std2 hb3 | replace hB := hB.st3 hb3); have kB := hB.facts; (first | replace hBk := hBk.st0 hb3 | replace hBk := hBk.st1 hb3 | replace hBk := hBk.std hb3 | replace hBk := hBk.std1 hb3 | replace hBk := hBk.st2 hb3 | replace hBk := hBk.std2 hb3 | replace hBk := hBk.st3 hb3); have kBk := hBk.facts; (first | replace hN0 := hN0.st0 hb3 | replace hN0 := hN0.st1 hb3 | replace hN0 := hN0.std hb3 | replace hN0 := hN0.std1 hb3 | replace hN0 := hN0.st2 hb3 | replace hN0 := hN0.std2 hb3 | replace hN0 := hN0.st3 hb3); (first | replace hD0 := hD0.st0 hb3 | replace hD0 := hD0.st1 hb3 | replace hD0 := hD0.std hb3 | replace hD0 := hD0.std1 hb3 | replace hD0 := hD0.st2 hb3 | replace hD0 := hD0.std2 hb3 | replace hD0 := hD0.st3 hb3)))
    go_ret2
    exact ⟨by rw [HS.out]; rfl, by (repeat (first | exact bl_refl | assumption | (apply bl_then; assumption) | refine bl_alloc ?_ _ | refine bl_drew ?_ | refine bl_drewN ?_ _))⟩

theorem pwalk_any {v u : Value} (N D : List Bar) (x y : Int) (w : World) (hN : SlB w v N) (hD : SlB w u D) : Calls Tryz.prog 19 #[.agg #[v, u], .agg #[.int .i64 x, .int .i64 y]] w (RKE w (walkR N D (x, y)) (walkE N D (x, y))) := by
  have hB := (Blk.new w 32 #[v, u]).alloc (.cells #[.int .i64 x, .int .i64 y] 26)
  have hBk := Blk.new1 w (.cells #[v, u] 32) 26 #[.int .i64 x, .int .i64 y]
  have hN0 := (hN.alloc (.cells #[v, u] 32)).alloc (.cells #[.int .i64 x, .int .i64 y] 26)
  have hD0 := (hD.alloc (.cells #[v, u] 32)).alloc (.cells #[.int .i64 x, .int .i64 y] 26)
  by_cases hE0 : twoE N D (x, y) = 0
  · obtain ⟨hok, hkn⟩ := twoE_ok hE0
    have hE' : (firstI [tornE N D, knotE x y] != 0) = false := by
      have : firstI [tornE N D, knotE x y] = 0 := hE0
      rw [this]; rfl
    have HS : Hid (walkE N D (x, y) = whenI (!(missN D (x, y) == 1)) 18) := by unfold Hid walkE; rw [if_pos hE0]
    obtain ⟨⟨l0, l1, l2, l3⟩, hL⟩ : ∃ L, legsAt D (x, y) = L := ⟨_, rfl⟩
    have HM : Hid (missN D (x, y) = cnt (l0, l1, l2, l3)) := by unfold Hid missN; rw [hL]
    have hlk := fun h rb rk W (hW : HoleAt W h rb rk D) => hole_look hW x y
    rw [hL] at hlk
    obtain ⟨q, hq⟩ : ∃ q, (((cnt (l0, l1, l2, l3) : Nat) : Int) != 1) = q := ⟨_, rfl⟩
    have HQ : Hid ((missN D (x, y) == 1) = !q) := by
      unfold Hid
      rw [HM.out, ← hq, Bool.eq_iff_iff]
      simp
      omega
    clear hE0 hkn
    cases q
    · have hm1 : cnt (legsAt D (x, y)) = 1 := by
        have := HQ.out
        simpa [missN] using this
      clear hL
      go_enter Tryz.func19, Tryz.ntmps19
      go_wp2
      refine wp_region_ords [0, 2] [(1, false)] [3, 4, 5, 6] (by kernel_rfl) (by kernel_rfl) (fun d _ _ _ _ h => by cases d <;> exact h) ?_
      simp only [List.map_cons, List.map_nil, List.getD_cons_zero, List.getD_cons_succ]
      repeat (go_big_quiet_step (fail))
      refine wpQuiet_nil ?_
      refine wpMid_run rfl (fun K hK => ?_)
      go_simp
      refine (mtorn_any N D _ hN0.drew hD0.drew).mono ?_
      rintro e w1 ⟨rfl, hb1⟩
      refine hK _ _ (by (repeat (first | exact bl_refl | assumption | (apply bl_then; assumption) | refine bl_alloc ?_ _ | refine bl_drew ?_ | refine bl_drewN ?_ _))) ?_
      clear hK K
      (first | replace hB := hB.st0 hb1 | replace hB := hB.st1 hb1 | replace hB := hB.std hb1 | replace hB := hB.std1 hb1 | replace hB := hB.st2 hb1 | replace hB := hB.std2 hb1 | replace hB := hB.st3 hb1)
      have kB := hB.facts
      (first | replace hBk := hBk.st0 hb1 | replace hBk := hBk.st1 hb1 | replace hBk := hBk.std hb1 | replace hBk := hBk.std1 hb1 | replace hBk := hBk.st2 hb1 | replace hBk := hBk.std2 hb1 | replace hBk := hBk.st3 hb1)
      have kBk := hBk.facts
      (first | replace hN0 := hN0.st0 hb1 | replace hN0 := hN0.st1 hb1 | replace hN0 := hN0.std hb1 | replace hN0 := hN0.std1 hb1 | replace hN0 := hN0.st2 hb1 | replace hN0 := hN0.std2 hb1 | replace hN0 := hN0.st3 hb1)
      (first | replace hD0 := hD0.st0 hb1 | replace hD0 := hD0.st1 hb1 | replace hD0 := hD0.std hb1 | replace hD0 := hD0.std1 hb1 | replace hD0 := hD0.st2 hb1 | replace hD0 := hD0.std2 hb1 | replace hD0 := hD0.st3 hb1)
      refine wpMid_nil ?_
      go_wp2_with (first | (go_at_call 80; refine (nknot_any x y _).mono ?_; rintro e w2 ⟨rfl, hb2⟩; (first | replace hB := hB.st0 hb2 | replace hB := hB.st1 hb2 | replace hB := hB.std hb2 | replace hB := hB.std1 hb2 | replace hB := hB.st2 hb2 | replace hB := hB.std2 hb2 | replace hB := hB.st3 hb2); have kB := hB.facts; (first | replace hBk := hBk.st0 hb2 | replace hBk := hBk.st1 hb2 | replace hBk := hBk.std hb2 | replace hBk := hBk.std1 hb2 | replace hBk := hBk.st2 hb2 | replace hBk := hBk.std2 hb2 | replace hBk := hBk.st3 hb2); have kBk := hBk.facts; (first | replace hN0 := hN0.st0 hb2 | replace hN0 := hN0.st1 hb2 | replace hN0 := hN0.std hb2 | replace hN0 := hN0.std1 hb2 | replace hN0 := hN0.st2 hb2 | replace hN0 := hN0.std2 hb2 | replace hN0 := hN0.st3 hb2); (first | replace hD0 := hD0.st0 hb2 | replace hD0 := hD0.st1 hb2 | replace hD0 := hD0.std hb2 | replace hD0 := hD0.std1 hb2 | replace hD0 := hD0.st2 hb2 | replace hD0 := hD0.std2 hb2 | replace hD0 := hD0.st3 hb2)) | (go_at_call 79; refine (mfirst_any [tornE N D, knotE x y] _ _ _ (by simp [maxLen]) (Rd.ints2 (by simp) (by go_simp) (by go_simp))).mono ?_; rintro e w3 ⟨rfl, hb3⟩; (first | replace hB := hB.st0 hb3 | replace hB := hB.st1 hb3 | replace hB := hB.std hb3 | replace hB := hB.std1 hb3 | replace hB := hB.st2 hb3 | replace hB := hB.std2 hb3 | replace hB := hB.st3 hb3); have kB := hB.facts; (first | replace hBk := hBk.st0 hb3 | replace hBk := hBk.st1 hb3 | replace hBk := hBk.std hb3 | replace hBk := hBk.std1 hb3 | replace hBk := hBk.st2 hb3 | replace hBk := hBk.std2 hb3 | replace hBk := hBk.st3 hb3); have kBk := hBk.facts; (first | replace hN0 := hN0.st0 hb3 | replace hN0 := hN0.st1 hb3 | replace hN0 := hN0.std hb3 | replace hN0 := hN0.std1 hb3 | replace hN0 := hN0.st2 hb3 | replace hN0 := hN0.std2 hb3 | replace hN0 := hN0.st3 hb3); (first | replace hD0 := hD0.st0 hb3 | replace hD0 := hD0.st1 hb3 | replace hD0 := hD0.std hb3 | replace hD0 := hD0.std1 hb3 | replace hD0 := hD0.st2 hb3 | replace hD0 := hD0.std2 hb3 | replace hD0 := hD0.st3 hb3)) | (go_at_call 77; refine (newHole_any D _ hD0 hok.dam.nodup hok.dam.ok).mono ?_; rintro e w4 ⟨h, rb, rk, rfl, _, _, _, H4, hb4⟩; replace hBk := hBk.st0 hb4; have kBk := hBk.facts))
      have f4 := H4.blk.facts
      have hlk4 := fun g : Bel w4.heap.size w4 => hlk _ _ _ _ (H4.below g.below)
      refine wp_region_ords [0, 1, 2, 3, 4, 5] [] [6, 7] (by kernel_rfl) (by kernel_rfl) (fun d _ _ _ _ h => by cases d <;> exact h) ?_
      simp only [List.map_cons, List.map_nil, List.getD_cons_zero, List.getD_cons_succ]
      repeat (go_big_quiet_step (fail))
      refine wpQuiet_nil ?_
      refine wpMid_nil ?_
      go_wp2_with (first | (go_at_call 81; refine (count_any l0 l1 l2 l3 _).mono ?_; rintro e w5 ⟨rfl, hb5⟩; have hBk5 := hBk.below (bl_d hb5); have fBk5 := hBk5.facts; have H5 := H4.below (bl_d hb5)) |
        (go_at_call 82; refine (walk_any _ _ _ D x y _ H5 hok.dam.ok hok.lens.2 hm1).mono ?_; rintro e w6 ⟨v6, rfl, hown6, hb6⟩))
      go_ret2
      have hbw5 : Below w.heap.size w w5 := by (repeat (first | exact bl_refl | assumption | (apply bl_then; assumption) | refine bl_alloc ?_ _ | refine bl_drew ?_ | refine bl_drewN ?_ _))
      have hz : Hid (walkE N D (x, y) = 0) := by unfold Hid; rw [HS.out, HQ.out]; rfl
      exact ⟨v6, by rw [hz.out]; rfl, by unfold walkR; rw [if_pos hz.out]; exact hown6.base_mono hbw5.size, by (repeat (first | exact bl_refl | assumption | (apply bl_then; assumption) | refine bl_alloc ?_ _ | refine bl_drew ?_ | refine bl_drewN ?_ _))⟩
    · clear hL
      go_enter Tryz.func19, Tryz.ntmps19
      go_wp2
      refine wp_region_ords [0, 2] [(1, false)] [3, 4, 5, 6] (by kernel_rfl) (by kernel_rfl) (fun d _ _ _ _ h => by cases d <;> exact h) ?_
      simp only [List.map_cons, List.map_nil, List.getD_cons_zero, List.getD_cons_succ]
      repeat (go_big_quiet_step (fail))
      refine wpQuiet_nil ?_
      refine wpMid_run rfl (fun K hK => ?_)
      go_simp
      refine (mtorn_any N D _ hN0.drew hD0.drew).mono ?_
      rintro e w1 ⟨rfl, hb1⟩
      refine hK _ _ (by (repeat (first | exact bl_refl | assumption | (apply bl_then; assumption) | refine bl_alloc ?_ _ | refine bl_drew ?_ | refine bl_drewN ?_ _))) ?_
      clear hK K
      (first | replace hB := hB.st0 hb1 | replace hB := hB.st1 hb1 | replace hB := hB.std hb1 | replace hB := hB.std1 hb1 | replace hB := hB.st2 hb1 | replace hB := hB.std2 hb1 | replace hB := hB.st3 hb1)
      have kB := hB.facts
      (first | replace hBk := hBk.st0 hb1 | replace hBk := hBk.st1 hb1 | replace hBk := hBk.std hb1 | replace hBk := hBk.std1 hb1 | replace hBk := hBk.st2 hb1 | replace hBk := hBk.std2 hb1 | replace hBk := hBk.st3 hb1)
      have kBk := hBk.facts
      (first | replace hN0 := hN0.st0 hb1 | replace hN0 := hN0.st1 hb1 | replace hN0 := hN0.std hb1 | replace hN0 := hN0.std1 hb1 | replace hN0 := hN0.st2 hb1 | replace hN0 := hN0.std2 hb1 | replace hN0 := hN0.st3 hb1)
      (first | replace hD0 := hD0.st0 hb1 | replace hD0 := hD0.st1 hb1 | replace hD0 := hD0.std hb1 | replace hD0 := hD0.std1 hb1 | replace hD0 := hD0.st2 hb1 | replace hD0 := hD0.std2 hb1 | replace hD0 := hD0.st3 hb1)
      refine wpMid_nil ?_
      go_wp2_with (first | (go_at_call 80; refine (nknot_any x y _).mono ?_; rintro e w2 ⟨rfl, hb2⟩; (first | replace hB := hB.st0 hb2 | replace hB := hB.st1 hb2 | replace hB := hB.std hb2 | replace hB := hB.std1 hb2 | replace hB := hB.st2 hb2 | replace hB := hB.std2 hb2 | replace hB := hB.st3 hb2); have kB := hB.facts; (first | replace hBk := hBk.st0 hb2 | replace hBk := hBk.st1 hb2 | replace hBk := hBk.std hb2 | replace hBk := hBk.std1 hb2 | replace hBk := hBk.st2 hb2 | replace hBk := hBk.std2 hb2 | replace hBk := hBk.st3 hb2); have kBk := hBk.facts; (first | replace hN0 := hN0.st0 hb2 | replace hN0 := hN0.st1 hb2 | replace hN0 := hN0.std hb2 | replace hN0 := hN0.std1 hb2 | replace hN0 := hN0.st2 hb2 | replace hN0 := hN0.std2 hb2 | replace hN0 := hN0.st3 hb2); (first | replace hD0 := hD0.st0 hb2 | replace hD0 := hD0.st1 hb2 | replace hD0 := hD0.std hb2 | replace hD0 := hD0.std1 hb2 | replace hD0 := hD0.st2 hb2 | replace hD0 := hD0.std2 hb2 | replace hD0 := hD0.st3 hb2)) | (go_at_call 79; refine (mfirst_any [tornE N D, knotE x y] _ _ _ (by simp [maxLen]) (Rd.ints2 (by simp) (by go_simp) (by go_simp))).mono ?_; rintro e w3 ⟨rfl, hb3⟩; (first | replace hB := hB.st0 hb3 | replace hB := hB.st1 hb3 | replace hB := hB.std hb3 | replace hB := hB.std1 hb3 | replace hB := hB.st2 hb3 | replace hB := hB.std2 hb3 | replace hB := hB.st3 hb3); have kB := hB.facts; (first | replace hBk := hBk.st0 hb3 | replace hBk := hBk.st1 hb3 | replace hBk := hBk.std hb3 | replace hBk := hBk.std1 hb3 | replace hBk := hBk.st2 hb3 | replace hBk := hBk.std2 hb3 | replace hBk := hBk.st3 hb3); have kBk := hBk.facts; (first | replace hN0 := hN0.st0 hb3 | replace hN0 := hN0.st1 hb3 | replace hN0 := hN0.std hb3 | replace hN0 := hN0.std1 hb3 | replace hN0 := hN0.st2 hb3 | replace hN0 := hN0.std2 hb3 | replace hN0 := hN0.st3 hb3); (first | replace hD0 := hD0.st0 hb3 | replace hD0 := hD0.st1 hb3 | replace hD0 := hD0.std hb3 | replace hD0 := hD0.std1 hb3 | replace hD0 := hD0.st2 hb3 | replace hD0 := hD0.std2 hb3 | replace hD0 := hD0.st3 hb3)) | (go_at_call 77; refine (newHole_any D _ hD0 hok.dam.nodup hok.dam.ok).mono ?_; rintro e w4 ⟨h, rb, rk, rfl, _, _, _, H4, hb4⟩; replace hBk := hBk.st0 hb4; have kBk := hBk.facts))
      have f4 := H4.blk.facts
      have hlk4 := fun g : Bel w4.heap.size w4 => hlk _ _ _ _ (H4.below g.below)
      refine wp_region_ords [0, 1, 2, 3, 4, 5] [] [6, 7] (by kernel_rfl) (by kernel_rfl) (fun d _ _ _ _ h => by cases d <;> exact h) ?_
      simp only [List.map_cons, List.map_nil, List.getD_cons_zero, List.getD_cons_succ]
      repeat (go_big_quiet_step (fail))
      refine wpQuiet_nil ?_
      refine wpMid_nil ?_
      go_wp2_with (go_at_call 81; refine (count_any l0 l1 l2 l3 _).mono ?_; rintro e w5 ⟨rfl, hb5⟩)
      go_ret2
      have hz : Hid (walkE N D (x, y) = 18) := by unfold Hid; rw [HS.out, HQ.out]; rfl
      exact ⟨.slice none 0 0, by rw [hz.out]; rfl, by unfold walkR; rw [if_neg (by rw [hz.out]; decide)]; exact Own.nil_, by (repeat (first | exact bl_refl | assumption | (apply bl_then; assumption) | refine bl_alloc ?_ _ | refine bl_drew ?_ | refine bl_drewN ?_ _))⟩
  · have hE' : (firstI [tornE N D, knotE x y] != 0) = true := by
      have : firstI [tornE N D, knotE x y] ≠ 0 := hE0
      simpa using this
    have HS : Hid (walkE N D (x, y) = twoE N D (x, y) ∧ walkR N D (x, y) = []) := by
      have h1 : walkE N D (x, y) = twoE N D (x, y) := by unfold walkE; rw [if_neg hE0]
      exact ⟨h1, by unfold walkR; rw [h1, if_neg hE0]⟩
    clear hE0
    go_enter Tryz.func19, Tryz.ntmps19
    go_wp2
    refine wp_region_ords [0, 2] [(1, false)] [3, 4, 5, 6] (by kernel_rfl) (by kernel_rfl) (fun d _ _ _ _ h => by cases d <;> exact h) ?_
    simp only [List.map_cons, List.map_nil, List.getD_cons_zero, List.getD_cons_succ]
    repeat (go_big_quiet_step (fail))
    refine wpQuiet_nil ?_
    refine wpMid_run rfl (fun K hK => ?_)
    go_simp
    refine (mtorn_any N D _ hN0.drew hD0.drew).mono ?_
    rintro e w1 ⟨rfl, hb1⟩
    refine hK _ _ (by (repeat (first | exact bl_refl | assumption | (apply bl_then; assumption) | refine bl_alloc ?_ _ | refine bl_drew ?_ | refine bl_drewN ?_ _))) ?_
    clear hK K
    (first | replace hB := hB.st0 hb1 | replace hB := hB.st1 hb1 | replace hB := hB.std hb1 | replace hB := hB.std1 hb1 | replace hB := hB.st2 hb1 | replace hB := hB.std2 hb1 | replace hB := hB.st3 hb1)
    have kB := hB.facts
    (first | replace hBk := hBk.st0 hb1 | replace hBk := hBk.st1 hb1 | replace hBk := hBk.std hb1 | replace hBk := hBk.std1 hb1 | replace hBk := hBk.st2 hb1 | replace hBk := hBk.std2 hb1 | replace hBk := hBk.st3 hb1)
    have kBk := hBk.facts
    (first | replace hN0 := hN0.st0 hb1 | replace hN0 := hN0.st1 hb1 | replace hN0 := hN0.std hb1 | replace hN0 := hN0.std1 hb1 | replace hN0 := hN0.st2 hb1 | replace hN0 := hN0.std2 hb1 | replace hN0 := hN0.st3 hb1)
    (first | replace hD0 := hD0.st0 hb1 | replace hD0 := hD0.st1 hb1 | replace hD0 := hD0.std hb1 | replace hD0 := hD0.std1 hb1 | replace hD0 := hD0.st2 hb1 | replace hD0 := hD0.std2 hb1 | replace hD0 := hD0.st3 hb1)
    refine wpMid_nil ?_
    go_wp2_with (first | (go_at_call 80; refine (nknot_any x y _).mono ?_; rintro e w2 ⟨rfl, hb2⟩; (first | replace hB := hB.st0 hb2 | replace hB := hB.st1 hb2 | replace hB := hB.std hb2 | replace hB := hB.std1 hb2 | replace hB := hB.st2 hb2 | replace hB := hB.std2 hb2 | replace hB := hB.st3 hb2); have kB := hB.facts; (first | replace hBk := hBk.st0 hb2 | replace hBk := hBk.st1 hb2 | replace hBk := hBk.std hb2 | replace hBk := hBk.std1 hb2 | replace hBk := hBk.st2 hb2 | replace hBk := hBk.std2 hb2 | replace hBk := hBk.st3 hb2); have kBk := hBk.facts; (first | replace hN0 := hN0.st0 hb2 | replace hN0 := hN0.st1 hb2 | replace hN0 := hN0.std hb2 | replace hN0 := hN0.std1 hb2 | replace hN0 := hN0.st2 hb2 | replace hN0 := hN0.std2 hb2 | replace hN0 := hN0.st3 hb2); (first | replace hD0 := hD0.st0 hb2 | replace hD0 := hD0.st1 hb2 | replace hD0 := hD0.std hb2 | replace hD0 := hD0.std1 hb2 | replace hD0 := hD0.st2 hb2 | replace hD0 := hD0.std2 hb2 | replace hD0 := hD0.st3 hb2)) | (go_at_call 79; refine (mfirst_any [tornE N D, knotE x y] _ _ _ (by simp [maxLen]) (Rd.ints2 (by simp) (by go_simp) (by go_simp))).mono ?_; rintro e w3 ⟨rfl, hb3⟩; (first | replace hB := hB.st0 hb3 | replace hB := hB.st1 hb3 | replace hB := hB.std hb3 | replace hB := hB.std1 hb3 | replace hB := hB.st2 hb3 | replace hB := hB.std2 hb3 | replace hB := hB.st3 hb3); have kB := hB.facts; (first | replace hBk := hBk.st0 hb3 | replace hBk := hBk.st1 hb3 | replace hBk := hBk.std hb3 | replace hBk := hBk.std1 hb3 | replace hBk := hBk.st2 hb3 | replace hBk := hBk.std2 hb3 | replace hBk := hBk.st3 hb3); have kBk := hBk.facts; (first | replace hN0 := hN0.st0 hb3 | replace hN0 := hN0.st1 hb3 | replace hN0 := hN0.std hb3 | replace hN0 := hN0.std1 hb3 | replace hN0 := hN0.st2 hb3 | replace hN0 := hN0.std2 hb3 | replace hN0 := hN0.st3 hb3); (first | replace hD0 := hD0.st0 hb3 | replace hD0 := hD0.st1 hb3 | replace hD0 := hD0.std hb3 | replace hD0 := hD0.std1 hb3 | replace hD0 := hD0.st2 hb3 | replace hD0 := hD0.std2 hb3 | replace hD0 := hD0.st3 hb3)))
    go_ret2
    exact ⟨.slice none 0 0, by rw [HS.out.1]; rfl, by rw [HS.out.2]; exact Own.nil_, by (repeat (first | exact bl_refl | assumption | (apply bl_then; assumption) | refine bl_alloc ?_ _ | refine bl_drew ?_ | refine bl_drewN ?_ _))⟩
end Go.Proofs.YthcnngoaijgnoaaGreat

/- Patches, the inner bars and trimmings that are checked, of the program, walked. Conditions: the slices read as lists. -/
namespace Go.Proofs.YthcnngoaijgnoaaGreat
open Go.RowKit Go.ChangeMaps
set_option maxHeartbeats 4000000
set_option maxRecDepth 100000

def netsE (N D P : List Bar) : Int := firstI [tornE N D, netE P]
def patchE (N D P : List Bar) : Int := if netsE N D P = 0 then whenI (unk P D) 10 else netsE N D P
theorem patch_len {N D P : List Bar} (h : netsE N D P = 0) : TornOk N D ∧ NetOk P := by
  obtain ⟨h1, h2⟩ := firstI_zero h
  exact ⟨torn_ok h1, netE_ok h2⟩
theorem checkPatch_any {v u z : Value} (N D P : List Bar) (w : World) (hN : SlB w v N) (hD : SlB w u D) (hP : SlB w z P) : Calls Tryz.prog 102 #[.agg #[v, u], z] w (RV w (.int .i64 (patchE N D P))) := by
  have hB := Blk.new w 32 #[v, u]
  have hN0 := hN.alloc (.cells #[v, u] 32)
  have hD0 := hD.alloc (.cells #[v, u] 32)
  have hP0 := hP.alloc (.cells #[v, u] 32)
  by_cases hE0 : netsE N D P = 0
  · obtain ⟨hok, hpo⟩ := patch_len hE0
    have hE' : (firstI [tornE N D, netE P] != 0) = false := by
      have : firstI [tornE N D, netE P] = 0 := hE0
      rw [this]; rfl
    have hpl : P.length ≤ 100000 := by have := hpo.len; omega
    have HS : Hid (patchE N D P = whenI (unk P D) 10) := by unfold Hid patchE; rw [if_pos hE0]
    clear hE0
    go_enter Tryz.func102, Tryz.ntmps102
    go_wp2_with (first | (go_at_call 57; refine (mtorn_any N D _ hN0 hD0).mono ?_; rintro e w1 ⟨rfl, hb1⟩; (first | replace hB := hB.st0 hb1 | replace hB := hB.st1 hb1 | replace hB := hB.std hb1 | replace hB := hB.std1 hb1 | replace hB := hB.st2 hb1 | replace hB := hB.std2 hb1 | replace hB := hB.st3 hb1); have kB := hB.facts; (first | replace hN0 := hN0.st0 hb1 | replace hN0 := hN0.st1 hb1 | replace hN0 := hN0.std hb1 | replace hN0 := hN0.std1 hb1 | replace hN0 := hN0.st2 hb1 | replace hN0 := hN0.std2 hb1 | replace hN0 := hN0.st3 hb1); (first | replace hD0 := hD0.st0 hb1 | replace hD0 := hD0.st1 hb1 | replace hD0 := hD0.std hb1 | replace hD0 := hD0.std1 hb1 | replace hD0 := hD0.st2 hb1 | replace hD0 := hD0.std2 hb1 | replace hD0 := hD0.st3 hb1); (first | replace hP0 := hP0.st0 hb1 | replace hP0 := hP0.st1 hb1 | replace hP0 := hP0.std hb1 | replace hP0 := hP0.std1 hb1 | replace hP0 := hP0.st2 hb1 | replace hP0 := hP0.std2 hb1 | replace hP0 := hP0.st3 hb1)) | (go_at_call 107; refine (nnet_sl P _ hP0).mono ?_; rintro e w2 ⟨rfl, hb2⟩; (first | replace hB := hB.st0 hb2 | replace hB := hB.st1 hb2 | replace hB := hB.std hb2 | replace hB := hB.std1 hb2 | replace hB := hB.st2 hb2 | replace hB := hB.std2 hb2 | replace hB := hB.st3 hb2); have kB := hB.facts; (first | replace hN0 := hN0.st0 hb2 | replace hN0 := hN0.st1 hb2 | replace hN0 := hN0.std hb2 | replace hN0 := hN0.std1 hb2 | replace hN0 := hN0.st2 hb2 | replace hN0 := hN0.std2 hb2 | replace hN0 := hN0.st3 hb2); (first | replace hD0 := hD0.st0 hb2 | replace hD0 := hD0.st1 hb2 | replace hD0 := hD0.std hb2 | replace hD0 := hD0.std1 hb2 | replace hD0 := hD0.st2 hb2 | replace hD0 := hD0.std2 hb2 | replace hD0 := hD0.st3 hb2); (first | replace hP0 := hP0.st0 hb2 | replace hP0 := hP0.st1 hb2 | replace hP0 := hP0.std hb2 | replace hP0 := hP0.std1 hb2 | replace hP0 := hP0.st2 hb2 | replace hP0 := hP0.std2 hb2 | replace hP0 := hP0.st3 hb2)) | (go_at_call 79; refine (mfirst_any [tornE N D, netE P] _ _ _ (by simp [maxLen]) (Rd.ints2 (by simp) (by go_simp) (by go_simp))).mono ?_; rintro e w3 ⟨rfl, hb3⟩; (first | replace hB := hB.st0 hb3 | replace hB := hB.st1 hb3 | replace hB := hB.std hb3 | replace hB := hB.std1 hb3 | replace hB := hB.st2 hb3 | replace hB := hB.std2 hb3 | replace hB := hB.st3 hb3); have kB := hB.facts; (first | replace hN0 := hN0.st0 hb3 | replace hN0 := hN0.st1 hb3 | replace hN0 := hN0.std hb3 | replace hN0 := hN0.std1 hb3 | replace hN0 := hN0.st2 hb3 | replace hN0 := hN0.std2 hb3 | replace hN0 := hN0.st3 hb3); (first | replace hD0 := hD0.st0 hb3 | replace hD0 := hD0.st1 hb3 | replace hD0 := hD0.std hb3 | replace hD0 := hD0.std1 hb3 | replace hD0 := hD0.st2 hb3 | replace hD0 := hD0.std2 hb3 | replace hD0 := hD0.st3 hb3); (first | replace hP0 := hP0.st0 hb3 | replace hP0 := hP0.st1 hb3 | replace hP0 := hP0.std hb3 | replace hP0 := hP0.std1 hb3 | replace hP0 := hP0.st2 hb3 | replace hP0 := hP0.std2 hb3 | replace hP0 := hP0.st3 hb3)) |
      (go_at_call 97; refine (without_any P D _ hP0 hD0 hpl).mono ?_; rintro e w4 ⟨v4, rfl, hown4, hb4⟩; obtain ⟨A4, c4, rfl⟩ := hown4.shape) | (go_at_call 83; refine (mwhen_any _ _ _).mono ?_; rintro e w5 ⟨rfl, hb5⟩))
    go_ret
    exact ⟨ret_int (by rw [HS.out, ← wout_unk]), by (repeat (first | exact bl_refl | assumption | (apply bl_then; assumption) | refine bl_alloc ?_ _ | refine bl_drew ?_ | refine bl_drewN ?_ _))⟩
  · have hE' : (firstI [tornE N D, netE P] != 0) = true := by
      have : firstI [tornE N D, netE P] ≠ 0 := hE0
      simpa using this
    have HS : Hid (patchE N D P = netsE N D P) := by unfold Hid patchE; rw [if_neg hE0]
    clear hE0
    go_enter Tryz.func102, Tryz.ntmps102
    go_wp2_with (first | (go_at_call 57; refine (mtorn_any N D _ hN0 hD0).mono ?_; rintro e w1 ⟨rfl, hb1⟩; (first | replace hB := hB.st0 hb1 | replace hB := hB.st1 hb1 | replace hB := hB.std hb1 | replace hB := hB.std1 hb1 | replace hB := hB.st2 hb1 | replace hB := hB.std2 hb1 | replace hB := hB.st3 hb1); have kB := hB.facts; (first | replace hN0 := hN0.st0 hb1 | replace hN0 := hN0.st1 hb1 | replace hN0 := hN0.std hb1 | replace hN0 := hN0.std1 hb1 | replace hN0 := hN0.st2 hb1 | replace hN0 := hN0.std2 hb1 | replace hN0 := hN0.st3 hb1); (first | replace hD0 := hD0.st0 hb1 | replace hD0 := hD0.st1 hb1 | replace hD0 := hD0.std hb1 | replace hD0 := hD0.std1 hb1 | replace hD0 := hD0.st2 hb1 | replace hD0 := hD0.std2 hb1 | replace hD0 := hD0.st3 hb1); (first | replace hP0 := hP0.st0 hb1 | replace hP0 := hP0.st1 hb1 | replace hP0 := hP0.std hb1 | replace hP0 := hP0.std1 hb1 | replace hP0 := hP0.st2 hb1 | replace hP0 := hP0.std2 hb1 | replace hP0 := hP0.st3 hb1)) | (go_at_call 107; refine (nnet_sl P _ hP0).mono ?_; rintro e w2 ⟨rfl, hb2⟩; (first | replace hB := hB.st0 hb2 | replace hB := hB.st1 hb2 | replace hB := hB.std hb2 | replace hB := hB.std1 hb2 | replace hB := hB.st2 hb2 | replace hB := hB.std2 hb2 | replace hB := hB.st3 hb2); have kB := hB.facts; (first | replace hN0 := hN0.st0 hb2 | replace hN0 := hN0.st1 hb2 | replace hN0 := hN0.std hb2 | replace hN0 := hN0.std1 hb2 | replace hN0 := hN0.st2 hb2 | replace hN0 := hN0.std2 hb2 | replace hN0 := hN0.st3 hb2); (first | replace hD0 := hD0.st0 hb2 | replace hD0 := hD0.st1 hb2 | replace hD0 := hD0.std hb2 | replace hD0 := hD0.std1 hb2 | replace hD0 := hD0.st2 hb2 | replace hD0 := hD0.std2 hb2 | replace hD0 := hD0.st3 hb2); (first | replace hP0 := hP0.st0 hb2 | replace hP0 := hP0.st1 hb2 | replace hP0 := hP0.std hb2 | replace hP0 := hP0.std1 hb2 | replace hP0 := hP0.st2 hb2 | replace hP0 := hP0.std2 hb2 | replace hP0 := hP0.st3 hb2)) | (go_at_call 79; refine (mfirst_any [tornE N D, netE P] _ _ _ (by simp [maxLen]) (Rd.ints2 (by simp) (by go_simp) (by go_simp))).mono ?_; rintro e w3 ⟨rfl, hb3⟩; (first | replace hB := hB.st0 hb3 | replace hB := hB.st1 hb3 | replace hB := hB.std hb3 | replace hB := hB.std1 hb3 | replace hB := hB.st2 hb3 | replace hB := hB.std2 hb3 | replace hB := hB.st3 hb3); have kB := hB.facts; (first | replace hN0 := hN0.st0 hb3 | replace hN0 := hN0.st1 hb3 | replace hN0 := hN0.std hb3 | replace hN0 := hN0.std1 hb3 | replace hN0 := hN0.st2 hb3 | replace hN0 := hN0.std2 hb3 | replace hN0 := hN0.st3 hb3); (first | replace hD0 := hD0.st0 hb3 | replace hD0 := hD0.st1 hb3 | replace hD0 := hD0.std hb3 | replace hD0 := hD0.std1 hb3 | replace hD0 := hD0.st2 hb3 | replace hD0 := hD0.std2 hb3 | replace hD0 := hD0.st3 hb3); (first | replace hP0 := hP0.st0 hb3 | replace hP0 := hP0.st1 hb3 | replace hP0 := hP0.std hb3 | replace hP0 := hP0.std1 hb3 | replace hP0 := hP0.st2 hb3 | replace hP0 := hP0.std2 hb3 | replace hP0 := hP0.st3 hb3)))
    go_ret
    exact ⟨ret_int (by rw [HS.out]; rfl), by (repeat (first | exact bl_refl | assumption | (apply bl_then; assumption) | refine bl_alloc ?_ _ | refine bl_drew ?_ | refine bl_drewN ?_ _))⟩
theorem clone_any {v : Value} (l : List Bar) (w : World) (h : SlB w v l) (hlen : l.length ≤ 100000) : Calls Tryz.prog 103 #[v] w (RB w l) := by
  obtain ⟨A, c, rfl, hlc, hcm, hr⟩ := h
  cases A with
  | none =>
    have hl : l = [] := by
      cases l with
      | nil => rfl
      | cons x r =>
        obtain ⟨b, off, he, _⟩ := hr 0 x rfl
        cases he
    subst hl
    have heq : ∀ W, (binOp .eql 22 (.slice none 0 c) (.slice none 0 0)).run Tryz.prog W = .ok (.bool true) W := fun W => Lib.run_eql_slice_nil (P := Tryz.prog) W 22 70 none 0 c 0 0 Tryz.underlying22
    go_enter Tryz.func103, Tryz.ntmps103
    go_wp2
    go_ret
    exact ⟨_, rfl, Own.nil_, by (repeat (first | exact bl_refl | assumption | (apply bl_then; assumption) | refine bl_alloc ?_ _ | refine bl_drew ?_ | refine bl_drewN ?_ _))⟩
  | some a =>
    have h : SlB w (.slice (some a) l.length c) l := ⟨some a, c, rfl, hlc, hcm, hr⟩
    clear hr
    have heq : ∀ W, (binOp .eql 22 (.slice (some a) l.length c) (.slice none 0 0)).run Tryz.prog W = .ok (.bool false) W := fun W => Lib.run_eql_slice_nil (P := Tryz.prog) W 22 70 (some a) l.length c 0 0 Tryz.underlying22
    go_enter Tryz.func103, Tryz.ntmps103
    go_wp2_with (at_builtin; refine wpList_appBS (Own.empty bc 3 w _) (h.alloc _) rfl _ _ rfl rfl rfl (by simp; omega) (by simp) ?_; intro v2 w2 hown2 hgr2)
    have hb2 : Below w.heap.size w w2 := bl_grown hgr2 (bl_alloc bl_refl _) fun k hk => by simp [Value.ownBlock] at hk; omega
    go_ret
    exact ⟨_, rfl, by simpa using hown2, hb2⟩

/-! ## the seam of a patch -/
def seamN (N D P : List Bar) : List Bar := if patchE N D P = 0 then N else []
def seamD (N D P : List Bar) : List Bar := if patchE N D P = 0 then wout D P else []
theorem patch_ok {N D P : List Bar} (h : patchE N D P = 0) : TornOk N D ∧ NetOk P ∧ ∀ b ∈ P, b ∈ D := by
  unfold patchE at h
  split at h
  · rename_i h1
    obtain ⟨h2, h3⟩ := patch_len h1
    refine ⟨h2, h3, fun b hb => ?_⟩
    by_cases hbD : b ∈ D
    · exact hbD
    · exfalso
      have : unk P D = true := List.any_eq_true.2 ⟨b, hb, by simp [hasb, hbD]⟩
      simp [whenI, this] at h
  · rename_i h1; exact absurd h h1
def RTE (w : World) (a b : List Bar) (n : Int) (e : Ending) (w' : World) : Prop := ∃ v1 v2, e = .returned (.tuple #[.agg #[v1, v2], .int .i64 n]) ∧ OwB w.heap.size w' v1 a ∧ OwB w.heap.size w' v2 b ∧ (∀ i j, v1.ownBlock = some i → v2.ownBlock = some j → i ≠ j) ∧ Below w.heap.size w w'
theorem seam_any {v u z : Value} (N D P : List Bar) (w : World) (hN : SlB w v N) (hD : SlB w u D) (hP : SlB w z P) : Calls Tryz.prog 35 #[.agg #[v, u], z] w (RTE w (seamN N D P) (seamD N D P) (patchE N D P)) := by
  have hB := (Blk.new w 32 #[v, u]).alloc (.cells #[.slice none 0 0, .slice none 0 0] 32)
  have hBR := Blk.new1 w (.cells #[v, u] 32) 32 #[.slice none 0 0, .slice none 0 0]
  have hN0 := (hN.alloc (.cells #[v, u] 32)).alloc (.cells #[.slice none 0 0, .slice none 0 0] 32)
  have hD0 := (hD.alloc (.cells #[v, u] 32)).alloc (.cells #[.slice none 0 0, .slice none 0 0] 32)
  have hP0 := (hP.alloc (.cells #[v, u] 32)).alloc (.cells #[.slice none 0 0, .slice none 0 0] 32)
  by_cases hE0 : patchE N D P = 0
  · obtain ⟨hok, hpo, _⟩ := patch_ok hE0
    have hE' : (patchE N D P != 0) = false := by rw [hE0]; rfl
    have HS : Hid (seamN N D P = N ∧ seamD N D P = wout D P ∧ patchE N D P = 0) := by unfold Hid seamN seamD; rw [if_pos hE0, if_pos hE0]; exact ⟨rfl, rfl, hE0⟩
    clear hE0
    go_enter Tryz.func35, Tryz.ntmps35
    go_wp2_with (go_at_call 102; refine (checkPatch_any N D P _ hN0 hD0 hP0).mono ?_; rintro e w1 ⟨rfl, hb1⟩; (first | replace hB := hB.st0 hb1 | replace hB := hB.st1 hb1 | replace hB := hB.std hb1 | replace hB := hB.std1 hb1 | replace hB := hB.st2 hb1 | replace hB := hB.std2 hb1 | replace hB := hB.st3 hb1); have kB := hB.facts; (first | replace hBR := hBR.st0 hb1 | replace hBR := hBR.st1 hb1 | replace hBR := hBR.std hb1 | replace hBR := hBR.std1 hb1 | replace hBR := hBR.st2 hb1 | replace hBR := hBR.std2 hb1 | replace hBR := hBR.st3 hb1); have kBR := hBR.facts; (first | replace hN0 := hN0.st0 hb1 | replace hN0 := hN0.st1 hb1 | replace hN0 := hN0.std hb1 | replace hN0 := hN0.std1 hb1 | replace hN0 := hN0.st2 hb1 | replace hN0 := hN0.std2 hb1 | replace hN0 := hN0.st3 hb1); (first | replace hD0 := hD0.st0 hb1 | replace hD0 := hD0.st1 hb1 | replace hD0 := hD0.std hb1 | replace hD0 := hD0.std1 hb1 | replace hD0 := hD0.st2 hb1 | replace hD0 := hD0.std2 hb1 | replace hD0 := hD0.st3 hb1); (first | replace hP0 := hP0.st0 hb1 | replace hP0 := hP0.st1 hb1 | replace hP0 := hP0.std hb1 | replace hP0 := hP0.std1 hb1 | replace hP0 := hP0.st2 hb1 | replace hP0 := hP0.std2 hb1 | replace hP0 := hP0.st3 hb1))
    refine wp_region_ords [0, 1, 3, 4, 5] [(2, false)] [6, 7, 8, 9] (by kernel_rfl) (by kernel_rfl) (fun d _ _ _ _ h => by cases d <;> exact h) ?_
    simp only [List.map_cons, List.map_nil, List.getD_cons_zero, List.getD_cons_succ]
    repeat (go_big_quiet_step (fail))
    refine wpQuiet_nil ?_
    refine wpMid_run rfl (fun K hK => ?_)
    go_simp
    refine (clone_any N _ hN0.drew hok.lens.1).mono ?_
    rintro e w2 ⟨v2, rfl, hown2, hb2⟩
    refine hK _ _ (by (repeat (first | exact bl_refl | assumption | (apply bl_then; assumption) | refine bl_alloc ?_ _ | refine bl_drew ?_ | refine bl_drewN ?_ _))) ?_
    clear hK K
    (first | replace hB := hB.st0 hb2 | replace hB := hB.st1 hb2 | replace hB := hB.std hb2 | replace hB := hB.std1 hb2 | replace hB := hB.st2 hb2 | replace hB := hB.std2 hb2 | replace hB := hB.st3 hb2)
    have kB := hB.facts
    (first | replace hBR := hBR.st0 hb2 | replace hBR := hBR.st1 hb2 | replace hBR := hBR.std hb2 | replace hBR := hBR.std1 hb2 | replace hBR := hBR.st2 hb2 | replace hBR := hBR.std2 hb2 | replace hBR := hBR.st3 hb2)
    have kBR := hBR.facts
    (first | replace hN0 := hN0.st0 hb2 | replace hN0 := hN0.st1 hb2 | replace hN0 := hN0.std hb2 | replace hN0 := hN0.std1 hb2 | replace hN0 := hN0.st2 hb2 | replace hN0 := hN0.std2 hb2 | replace hN0 := hN0.st3 hb2)
    (first | replace hD0 := hD0.st0 hb2 | replace hD0 := hD0.st1 hb2 | replace hD0 := hD0.std hb2 | replace hD0 := hD0.std1 hb2 | replace hD0 := hD0.st2 hb2 | replace hD0 := hD0.std2 hb2 | replace hD0 := hD0.st3 hb2)
    (first | replace hP0 := hP0.st0 hb2 | replace hP0 := hP0.st1 hb2 | replace hP0 := hP0.std hb2 | replace hP0 := hP0.std1 hb2 | replace hP0 := hP0.st2 hb2 | replace hP0 := hP0.std2 hb2 | replace hP0 := hP0.st3 hb2)
    obtain ⟨A2, c2, rfl⟩ := hown2.shape
    refine wpMid_nil ?_
    go_wp2_with (first | (go_at_call 97; refine (without_any D P _ hD0 hP0 hok.lens.2).mono ?_; rintro e w4 ⟨v4, rfl, hown4, hb4⟩; obtain ⟨A4, c4, rfl⟩ := hown4.shape; have hBR4 := hBR.below hb4) |
      (refine wpList_store_blk hBR4 rfl _ _ _ rfl rfl rfl (by rfl) (by kernel_rfl) (by kernel_rfl) ?_; intro w5 hR5 hc5))
    have fR := hR5.facts
    have hw1 := hb1.size
    simp at hw1
    have h24 := hb2.size
    have hbw4 : Below w.heap.size w w4 := by (repeat (first | exact bl_refl | assumption | (apply bl_then; assumption) | refine bl_alloc ?_ _ | refine bl_drew ?_ | refine bl_drewN ?_ _))
    have hbw5 : Below w.heap.size w w5 := ((Chg.of_below hbw4).trans (hc5.mono (S' := [w.heap.size + 1]) (by simp))).below (by simp) (Nat.le_refl _)
    have hn2 : (Value.slice A2 N.length c2).ownBlock ≠ some (w.heap.size + 1) := fun e => by have := (hown2.lt _ e).1; simp at this; omega
    have hn4 : (Value.slice A4 (wout D P).length c4).ownBlock ≠ some (w.heap.size + 1) := fun e => by have := (hown4.lt _ e).1; simp at h24; omega
    refine bodyPost_ret (v := .tuple #[.agg #[.slice A2 N.length c2, .slice A4 (wout D P).length c4], .int .i64 0]) (by simp [results, Tryz.results35, go_sem, fR]) rfl ?_
    refine ⟨_, _, by rw [HS.out.2.2], ?_, ?_, fun i j hi hj => ?_, hbw5⟩
    · rw [HS.out.1]; exact ((hown2.below hb4).chg1 hc5 hn2).base_mono (by simp; omega)
    · rw [HS.out.2.1]; exact (hown4.chg1 hc5 hn4).base_mono (by simp at h24; omega)
    · have h1 := (hown2.lt _ hi).2
      have h2 := (hown4.lt _ hj).1
      omega
  · have hE' : (patchE N D P != 0) = true := by simpa using hE0
    have HS : Hid (seamN N D P = [] ∧ seamD N D P = []) := by unfold Hid seamN seamD; rw [if_neg hE0, if_neg hE0]; exact ⟨rfl, rfl⟩
    clear hE0
    go_enter Tryz.func35, Tryz.ntmps35
    go_wp2_with (first | (go_at_call 102; refine (checkPatch_any N D P _ hN0 hD0 hP0).mono ?_; rintro e w1 ⟨rfl, hb1⟩; (first | replace hB := hB.st0 hb1 | replace hB := hB.st1 hb1 | replace hB := hB.std hb1 | replace hB := hB.std1 hb1 | replace hB := hB.st2 hb1 | replace hB := hB.std2 hb1 | replace hB := hB.st3 hb1); have kB := hB.facts; (first | replace hBR := hBR.st0 hb1 | replace hBR := hBR.st1 hb1 | replace hBR := hBR.std hb1 | replace hBR := hBR.std1 hb1 | replace hBR := hBR.st2 hb1 | replace hBR := hBR.std2 hb1 | replace hBR := hBR.st3 hb1); have kBR := hBR.facts; (first | replace hN0 := hN0.st0 hb1 | replace hN0 := hN0.st1 hb1 | replace hN0 := hN0.std hb1 | replace hN0 := hN0.std1 hb1 | replace hN0 := hN0.st2 hb1 | replace hN0 := hN0.std2 hb1 | replace hN0 := hN0.st3 hb1); (first | replace hD0 := hD0.st0 hb1 | replace hD0 := hD0.st1 hb1 | replace hD0 := hD0.std hb1 | replace hD0 := hD0.std1 hb1 | replace hD0 := hD0.st2 hb1 | replace hD0 := hD0.std2 hb1 | replace hD0 := hD0.st3 hb1); (first | replace hP0 := hP0.st0 hb1 | replace hP0 := hP0.st1 hb1 | replace hP0 := hP0.std hb1 | replace hP0 := hP0.std1 hb1 | replace hP0 := hP0.st2 hb1 | replace hP0 := hP0.std2 hb1 | replace hP0 := hP0.st3 hb1)) | (refine wpList_store_blk hBR rfl _ _ _ rfl rfl rfl (by rfl) (by kernel_rfl) (by kernel_rfl) ?_; intro w5 hR5 hc5))
    have fR := hR5.facts
    have hbw1 : Below w.heap.size w w1 := by (repeat (first | exact bl_refl | assumption | (apply bl_then; assumption) | refine bl_alloc ?_ _ | refine bl_drew ?_ | refine bl_drewN ?_ _))
    have hbw5 : Below w.heap.size w w5 := ((Chg.of_below hbw1).trans (hc5.mono (S' := [w.heap.size + 1]) (by simp))).below (by simp) (Nat.le_refl _)
    refine bodyPost_ret (v := .tuple #[.agg #[.slice none 0 0, .slice none 0 0], .int .i64 (patchE N D P)]) (by simp [results, Tryz.results35, go_sem, fR]) rfl ?_
    exact ⟨_, _, rfl, by rw [HS.out.1]; exact Own.nil_, by rw [HS.out.2]; exact Own.nil_, fun i j hi _ => by simp [Value.ownBlock] at hi, hbw5⟩
end Go.Proofs.YthcnngoaijgnoaaGreat

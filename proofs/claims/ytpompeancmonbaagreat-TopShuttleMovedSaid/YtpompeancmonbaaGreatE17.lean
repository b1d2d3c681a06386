/- Sound, Odd, Ready, Run, Bound, Missing and Walk of the program, walked. Conditions: the slices read as lists. -/
import Derived.Test.YtpompeancmonbaaGreatE16
import Derived.WalkSpells
namespace Go.Proofs.YtpompeancmonbaaGreat
open Go.RowKit Go.ChangeMaps
set_option maxHeartbeats 4000000
set_option maxRecDepth 100000

/-- a row of bars .. of knots, and an error -/
def RBE (w : World) (l : List Bar) (n : Int) (e : Ending) (w' : World) : Prop := ∃ v, e = .returned (.tuple #[v, .int .i64 n]) ∧ OwB w.heap.size w' v l ∧ Below w.heap.size w w'
def RKE (w : World) (l : List Knot) (n : Int) (e : Ending) (w' : World) : Prop := ∃ v, e = .returned (.tuple #[v, .int .i64 n]) ∧ OwK w.heap.size w' v l ∧ Below w.heap.size w w'
def soundL (N D : List Bar) : List Bar := if tornE N D = 0 then wout N D else []
def oddR (N D : List Bar) : List Knot := if tornE N D = 0 then oddK D else []
def readyR (N D : List Bar) : Bool := if tornE N D = 0 then rdyB D else false
def noneE (N D : List Bar) : Int := firstI [tornE N D, whenI (decide (D.length = 0)) 7]
def runE (N D : List Bar) : Int := if noneE N D = 0 then whenI (!rdyB D) 18 else noneE N D
def runL (N D : List Bar) : List Knot := if noneE N D = 0 then (runO D).getD [] else []
def boundN (D : List Bar) : Int := if (oddK D).length = 0 then 1 else (((oddK D).length : Int) - 2).tdiv 2
def boundR (N D : List Bar) : Int := if noneE N D = 0 then boundN D else 0
def twoE (N D : List Bar) (k : Knot) : Int := firstI [tornE N D, knotE k.1 k.2]
def missR (N D : List Bar) (k : Knot) : Int := if twoE N D k = 0 then (missN D k : Int) else 0
def walkE (N D : List Bar) (k : Knot) : Int := if twoE N D k = 0 then whenI (!(missN D k == 1)) 18 else twoE N D k
def walkR (N D : List Bar) (k : Knot) : List Knot := if walkE N D k = 0 then walkL D k else []
theorem firstI_zero {a b : Int} (h : firstI [a, b] = 0) : a = 0 ∧ b = 0 := by
  unfold firstI firstI firstI at h
  split at h
  · rename_i h1
    split at h
    · rename_i h2; exact ⟨h1, h2⟩
    · rename_i h2; exact absurd h h2
  · rename_i h1; exact absurd h h1
structure TornOk (N D : List Bar) : Prop where
  net : NetOk N
  dam : NetOk D
  sub : ∀ b ∈ D, b ∈ N
theorem torn_ok {N D : List Bar} (h : tornE N D = 0) : TornOk N D := ⟨(tornE_ok h).1, (tornE_ok h).2.1, (tornE_ok h).2.2⟩
theorem TornOk.lens {N D : List Bar} (h : TornOk N D) : N.length ≤ 100000 ∧ D.length ≤ 100000 := by
  have h1 := h.net.len
  have h2 := h.dam.len
  omega

theorem sound_any {v u : Value} (N D : List Bar) (w : World) (hN : SlB w v N) (hD : SlB w u D) : Calls Tryz.prog 16 #[.agg #[v, u]] w (RBE w (soundL N D) (tornE N D)) := by
  have hB := Blk.new w 27 #[v, u]
  have hN0 := hN.alloc (.cells #[v, u] 27)
  have hD0 := hD.alloc (.cells #[v, u] 27)
  by_cases hE : tornE N D = 0
  · have hok := torn_ok hE
    have hE' : (tornE N D != 0) = false := by simp [hE]
    have HS : Hid (soundL N D = wout N D ∧ tornE N D = 0) := by unfold Hid soundL; rw [if_pos hE]; exact ⟨rfl, hE⟩
    clear hE
    go_enter Tryz.func16, Tryz.ntmps16
    go_wp2_with (first | (go_at_call 45; refine (mtorn_any N D _ hN0 hD0).mono ?_; rintro e w1 ⟨rfl, hb1⟩; (first | replace hB := hB.st0 hb1 | replace hB := hB.st1 hb1 | replace hB := hB.std hb1 | replace hB := hB.std1 hb1 | replace hB := hB.st2 hb1 | replace hB := hB.std2 hb1 | replace hB := hB.st3 hb1); have kB := hB.facts; (first | replace hN0 := hN0.st0 hb1 | replace hN0 := hN0.st1 hb1 | replace hN0 := hN0.std hb1 | replace hN0 := hN0.std1 hb1 | replace hN0 := hN0.st2 hb1 | replace hN0 := hN0.std2 hb1 | replace hN0 := hN0.st3 hb1); (first | replace hD0 := hD0.st0 hb1 | replace hD0 := hD0.st1 hb1 | replace hD0 := hD0.std hb1 | replace hD0 := hD0.std1 hb1 | replace hD0 := hD0.st2 hb1 | replace hD0 := hD0.std2 hb1 | replace hD0 := hD0.st3 hb1)) | (go_at_call 50; refine (without_any N D _ hN0 hD0 hok.lens.1).mono ?_; rintro e w2 ⟨v2, rfl, hown2, hb2⟩))
    go_ret2
    exact ⟨_, by rw [HS.out.2]; rfl, by rw [HS.out.1]; exact hown2.base_mono (by have := (bl_a hb1).size; omega), by (repeat (first | exact bl_refl | assumption | (apply bl_then; assumption) | refine bl_alloc ?_ _ | refine bl_drew ?_ | refine bl_drewN ?_ _))⟩
  · have hE' : (tornE N D != 0) = true := by simpa using hE
    have HS : Hid (soundL N D = []) := by unfold Hid soundL; rw [if_neg hE]
    clear hE
    go_enter Tryz.func16, Tryz.ntmps16
    go_wp2_with (go_at_call 45; refine (mtorn_any N D _ hN0 hD0).mono ?_; rintro e w1 ⟨rfl, hb1⟩; (first | replace hB := hB.st0 hb1 | replace hB := hB.st1 hb1 | replace hB := hB.std hb1 | replace hB := hB.std1 hb1 | replace hB := hB.st2 hb1 | replace hB := hB.std2 hb1 | replace hB := hB.st3 hb1); have kB := hB.facts; (first | replace hN0 := hN0.st0 hb1 | replace hN0 := hN0.st1 hb1 | replace hN0 := hN0.std hb1 | replace hN0 := hN0.std1 hb1 | replace hN0 := hN0.st2 hb1 | replace hN0 := hN0.std2 hb1 | replace hN0 := hN0.st3 hb1); (first | replace hD0 := hD0.st0 hb1 | replace hD0 := hD0.st1 hb1 | replace hD0 := hD0.std hb1 | replace hD0 := hD0.std1 hb1 | replace hD0 := hD0.st2 hb1 | replace hD0 := hD0.std2 hb1 | replace hD0 := hD0.st3 hb1))
    go_ret2
    exact ⟨_, rfl, by rw [HS.out]; exact Own.nil_, by (repeat (first | exact bl_refl | assumption | (apply bl_then; assumption) | refine bl_alloc ?_ _ | refine bl_drew ?_ | refine bl_drewN ?_ _))⟩
theorem pready_any {v u : Value} (N D : List Bar) (w : World) (hN : SlB w v N) (hD : SlB w u D) : Calls Tryz.prog 14 #[.agg #[v, u]] w (RV w (.tuple #[.bool (readyR N D), .int .i64 (tornE N D)])) := by
  have hB := Blk.new w 27 #[v, u]
  have hN0 := hN.alloc (.cells #[v, u] 27)
  have hD0 := hD.alloc (.cells #[v, u] 27)
  by_cases hE : tornE N D = 0
  · have hok := torn_ok hE
    have hE' : (tornE N D != 0) = false := by simp [hE]
    have HS : Hid (readyR N D = rdyB D ∧ tornE N D = 0) := by unfold Hid readyR; rw [if_pos hE]; exact ⟨rfl, hE⟩
    clear hE
    go_enter Tryz.func14, Tryz.ntmps14
    go_wp2_with (first | (go_at_call 45; refine (mtorn_any N D _ hN0 hD0).mono ?_; rintro e w1 ⟨rfl, hb1⟩; (first | replace hB := hB.st0 hb1 | replace hB := hB.st1 hb1 | replace hB := hB.std hb1 | replace hB := hB.std1 hb1 | replace hB := hB.st2 hb1 | replace hB := hB.std2 hb1 | replace hB := hB.st3 hb1); have kB := hB.facts; (first | replace hN0 := hN0.st0 hb1 | replace hN0 := hN0.st1 hb1 | replace hN0 := hN0.std hb1 | replace hN0 := hN0.std1 hb1 | replace hN0 := hN0.st2 hb1 | replace hN0 := hN0.std2 hb1 | replace hN0 := hN0.st3 hb1); (first | replace hD0 := hD0.st0 hb1 | replace hD0 := hD0.st1 hb1 | replace hD0 := hD0.std hb1 | replace hD0 := hD0.std1 hb1 | replace hD0 := hD0.st2 hb1 | replace hD0 := hD0.std2 hb1 | replace hD0 := hD0.st3 hb1)) | (go_at_call 47; refine (newHole_any D _ hD0 hok.dam.nodup hok.dam.ok).mono ?_; rintro e w2 ⟨h, rb, rk, rfl, _, _, _, H2, hb2⟩) |
      (go_at_call 52; refine (ready_any _ _ _ D _ H2 hok.dam.ok hok.lens.2).mono ?_; rintro e w3 ⟨rfl, hb3⟩))
    go_ret2
    exact ⟨by rw [HS.out.1, HS.out.2]; rfl, by (repeat (first | exact bl_refl | assumption | (apply bl_then; assumption) | refine bl_alloc ?_ _ | refine bl_drew ?_ | refine bl_drewN ?_ _))⟩
  · have hE' : (tornE N D != 0) = true := by simpa using hE
    have HS : Hid (readyR N D = false) := by unfold Hid readyR; rw [if_neg hE]
    clear hE
    go_enter Tryz.func14, Tryz.ntmps14
    go_wp2_with (go_at_call 45; refine (mtorn_any N D _ hN0 hD0).mono ?_; rintro e w1 ⟨rfl, hb1⟩; (first | replace hB := hB.st0 hb1 | replace hB := hB.st1 hb1 | replace hB := hB.std hb1 | replace hB := hB.std1 hb1 | replace hB := hB.st2 hb1 | replace hB := hB.std2 hb1 | replace hB := hB.st3 hb1); have kB := hB.facts; (first | replace hN0 := hN0.st0 hb1 | replace hN0 := hN0.st1 hb1 | replace hN0 := hN0.std hb1 | replace hN0 := hN0.std1 hb1 | replace hN0 := hN0.st2 hb1 | replace hN0 := hN0.std2 hb1 | replace hN0 := hN0.st3 hb1); (first | replace hD0 := hD0.st0 hb1 | replace hD0 := hD0.st1 hb1 | replace hD0 := hD0.std hb1 | replace hD0 := hD0.std1 hb1 | replace hD0 := hD0.st2 hb1 | replace hD0 := hD0.std2 hb1 | replace hD0 := hD0.st3 hb1))
    go_ret2
    exact ⟨by rw [HS.out]; rfl, by (repeat (first | exact bl_refl | assumption | (apply bl_then; assumption) | refine bl_alloc ?_ _ | refine bl_drew ?_ | refine bl_drewN ?_ _))⟩

theorem noneE_ok {N D : List Bar} (h : noneE N D = 0) : TornOk N D ∧ D ≠ [] := by
  obtain ⟨h1, h2⟩ := firstI_zero h
  refine ⟨torn_ok h1, fun e => ?_⟩
  rw [e] at h2
  cases h2
theorem twoE_ok {N D : List Bar} {k : Knot} (h : twoE N D k = 0) : TornOk N D ∧ knotE k.1 k.2 = 0 := by
  obtain ⟨h1, h2⟩ := firstI_zero h
  exact ⟨torn_ok h1, h2⟩
theorem none_form (N D : List Bar) : firstI [tornE N D, whenI ((D.length : Int) == 0) 7] = noneE N D := by
  have : (((D.length : Int) == 0) : Bool) = decide (D.length = 0) := by rw [Bool.eq_iff_iff]; simp
  rw [this]; rfl
theorem prun_any {v u : Value} (N D : List Bar) (w : World) (hN : SlB w v N) (hD : SlB w u D) : Calls Tryz.prog 12 #[.agg #[v, u]] w (RKE w (runL N D) (runE N D)) := by
  have hB := Blk.new w 27 #[v, u]
  have hN0 := hN.alloc (.cells #[v, u] 27)
  have hD0 := hD.alloc (.cells #[v, u] 27)
  obtain ⟨A, c, rfl, hlc, hcm, hr⟩ := hD
  have hE : Hid (firstI [tornE N D, whenI ((D.length : Int) == 0) 7] = noneE N D) := none_form N D
  clear hr
  by_cases hE0 : noneE N D = 0
  · obtain ⟨hok, hne⟩ := noneE_ok hE0
    have hE' : (firstI [tornE N D, whenI ((D.length : Int) == 0) 7] != 0) = false := by rw [hE.out, hE0]; rfl
    have HS : Hid (runL N D = (runO D).getD [] ∧ runE N D = whenI (!rdyB D) 18) := by unfold Hid runL runE; rw [if_pos hE0, if_pos hE0]; exact ⟨rfl, rfl⟩
    obtain ⟨q, hq⟩ : ∃ q, (runO D).isSome = q := ⟨_, rfl⟩
    have hrn := fun W (hW : HoleAt W W.heap.size 0 0 D) => hW
    have hrun := fun h rb rk W (hW : HoleAt W h rb rk D) => run_any h rb rk D W hW hok.dam.ok hok.lens.2
    rw [hq] at hrun
    have HQ : Hid (rdyB D = q) := hq
    clear hE0 hne hrn
    go_enter Tryz.func12, Tryz.ntmps12
    go_wp2
    refine wp_region_ords [0, 2, 3, 4, 5] [(1, false)] [6, 7, 8, 9] (by kernel_rfl) (by kernel_rfl) (fun d _ _ _ _ h => by cases d <;> exact h) ?_
    simp only [List.map_cons, List.map_nil, List.getD_cons_zero, List.getD_cons_succ]
    repeat (go_big_quiet_step (fail))
    refine wpQuiet_nil ?_
    refine wpMid_run rfl (fun K hK => ?_)
    go_simp
    refine (mtorn_any N D _ hN0.drew hD0.drew).mono ?_
    rintro e w1 ⟨rfl, hb1⟩
    refine hK _ _ (by (repeat (first | exact bl_refl | assumption | (apply bl_then; assumption) | refine bl_alloc ?_ _ | refine bl_drew ?_ | refine bl_drewN ?_ _))) ?_
    clear hK K
    (first | replace hB := hB.st0 hb1 | replace hB := hB.st1 hb1 | replace hB := hB.std hb1 | replace hB := hB.std1 hb1 | replace hB := hB.st2 hb1 | replace hB := hB.std2 hb1 | replace hB := hB.st3 hb1)
    have kB := hB.facts
    (first | replace hN0 := hN0.st0 hb1 | replace hN0 := hN0.st1 hb1 | replace hN0 := hN0.std hb1 | replace hN0 := hN0.std1 hb1 | replace hN0 := hN0.st2 hb1 | replace hN0 := hN0.std2 hb1 | replace hN0 := hN0.st3 hb1)
    (first | replace hD0 := hD0.st0 hb1 | replace hD0 := hD0.st1 hb1 | replace hD0 := hD0.std hb1 | replace hD0 := hD0.std1 hb1 | replace hD0 := hD0.st2 hb1 | replace hD0 := hD0.std2 hb1 | replace hD0 := hD0.st3 hb1)
    refine wpMid_nil ?_
    cases q
    · go_wp2_with (first | (go_at_call 46; refine (mwhen_any _ _ _).mono ?_; rintro e w2 ⟨rfl, hb2⟩; (first | replace hB := hB.st0 hb2 | replace hB := hB.st1 hb2 | replace hB := hB.std hb2 | replace hB := hB.std1 hb2 | replace hB := hB.st2 hb2 | replace hB := hB.std2 hb2 | replace hB := hB.st3 hb2); have kB := hB.facts; (first | replace hN0 := hN0.st0 hb2 | replace hN0 := hN0.st1 hb2 | replace hN0 := hN0.std hb2 | replace hN0 := hN0.std1 hb2 | replace hN0 := hN0.st2 hb2 | replace hN0 := hN0.std2 hb2 | replace hN0 := hN0.st3 hb2); (first | replace hD0 := hD0.st0 hb2 | replace hD0 := hD0.st1 hb2 | replace hD0 := hD0.std hb2 | replace hD0 := hD0.std1 hb2 | replace hD0 := hD0.st2 hb2 | replace hD0 := hD0.std2 hb2 | replace hD0 := hD0.st3 hb2)) | (go_at_call 44; refine (mfirst_any [tornE N D, whenI ((D.length : Int) == 0) 7] _ _ _ (by simp [maxLen]) (Rd.ints2 (by simp) (by go_simp) (by go_simp))).mono ?_; rintro e w3 ⟨rfl, hb3⟩; (first | replace hB := hB.st0 hb3 | replace hB := hB.st1 hb3 | replace hB := hB.std hb3 | replace hB := hB.std1 hb3 | replace hB := hB.st2 hb3 | replace hB := hB.std2 hb3 | replace hB := hB.st3 hb3); have kB := hB.facts; (first | replace hN0 := hN0.st0 hb3 | replace hN0 := hN0.st1 hb3 | replace hN0 := hN0.std hb3 | replace hN0 := hN0.std1 hb3 | replace hN0 := hN0.st2 hb3 | replace hN0 := hN0.std2 hb3 | replace hN0 := hN0.st3 hb3); (first | replace hD0 := hD0.st0 hb3 | replace hD0 := hD0.st1 hb3 | replace hD0 := hD0.std hb3 | replace hD0 := hD0.std1 hb3 | replace hD0 := hD0.st2 hb3 | replace hD0 := hD0.std2 hb3 | replace hD0 := hD0.st3 hb3)) | (go_at_call 47; refine (newHole_any D _ hD0 hok.dam.nodup hok.dam.ok).mono ?_; rintro e w4 ⟨h, rb, rk, rfl, _, _, _, H4, hb4⟩) |
        (go_at_call 48; refine (hrun _ _ _ _ H4).mono ?_; rintro e w5 ⟨v5, rfl, hown5, hb5⟩))
      go_ret2
      refine ⟨.slice none 0 0, by rw [HS.out.2, HQ.out]; rfl, ?_, by (repeat (first | exact bl_refl | assumption | (apply bl_then; assumption) | refine bl_alloc ?_ _ | refine bl_drew ?_ | refine bl_drewN ?_ _))⟩
      have : runO D = none := by have := HQ.out; unfold rdyB at this; simpa using this
      rw [HS.out.1, this]; exact Own.nil_
    · go_wp2_with (first | (go_at_call 46; refine (mwhen_any _ _ _).mono ?_; rintro e w2 ⟨rfl, hb2⟩; (first | replace hB := hB.st0 hb2 | replace hB := hB.st1 hb2 | replace hB := hB.std hb2 | replace hB := hB.std1 hb2 | replace hB := hB.st2 hb2 | replace hB := hB.std2 hb2 | replace hB := hB.st3 hb2); have kB := hB.facts; (first | replace hN0 := hN0.st0 hb2 | replace hN0 := hN0.st1 hb2 | replace hN0 := hN0.std hb2 | replace hN0 := hN0.std1 hb2 | replace hN0 := hN0.st2 hb2 | replace hN0 := hN0.std2 hb2 | replace hN0 := hN0.st3 hb2); (first | replace hD0 := hD0.st0 hb2 | replace hD0 := hD0.st1 hb2 | replace hD0 := hD0.std hb2 | replace hD0 := hD0.std1 hb2 | replace hD0 := hD0.st2 hb2 | replace hD0 := hD0.std2 hb2 | replace hD0 := hD0.st3 hb2)) | (go_at_call 44; refine (mfirst_any [tornE N D, whenI ((D.length : Int) == 0) 7] _ _ _ (by simp [maxLen]) (Rd.ints2 (by simp) (by go_simp) (by go_simp))).mono ?_; rintro e w3 ⟨rfl, hb3⟩; (first | replace hB := hB.st0 hb3 | replace hB := hB.st1 hb3 | replace hB := hB.std hb3 | replace hB := hB.std1 hb3 | replace hB := hB.st2 hb3 | replace hB := hB.std2 hb3 | replace hB := hB.st3 hb3); have kB := hB.facts; (first | replace hN0 := hN0.st0 hb3 | replace hN0 := hN0.st1 hb3 | replace hN0 := hN0.std hb3 | replace hN0 := hN0.std1 hb3 | replace hN0 := hN0.st2 hb3 | replace hN0 := hN0.std2 hb3 | replace hN0 := hN0.st3 hb3); (first | replace hD0 := hD0.st0 hb3 | replace hD0 := hD0.st1 hb3 | replace hD0 := hD0.std hb3 | replace hD0 := hD0.std1 hb3 | replace hD0 := hD0.st2 hb3 | replace hD0 := hD0.std2 hb3 | replace hD0 := hD0.st3 hb3)) | (go_at_call 47; refine (newHole_any D _ hD0 hok.dam.nodup hok.dam.ok).mono ?_; rintro e w4 ⟨h, rb, rk, rfl, _, _, _, H4, hb4⟩) |
        (go_at_call 48; refine (hrun _ _ _ _ H4).mono ?_; rintro e w5 ⟨v5, rfl, hown5, hb5⟩))
      go_ret2
      have hbw4 : Below w.heap.size w w4 := by (repeat (first | exact bl_refl | assumption | (apply bl_then; assumption) | refine bl_alloc ?_ _ | refine bl_drew ?_ | refine bl_drewN ?_ _))
      exact ⟨v5, by rw [HS.out.2, HQ.out]; rfl, by rw [HS.out.1]; exact hown5.base_mono hbw4.size, by (repeat (first | exact bl_refl | assumption | (apply bl_then; assumption) | refine bl_alloc ?_ _ | refine bl_drew ?_ | refine bl_drewN ?_ _))⟩
  · have hE' : (firstI [tornE N D, whenI ((D.length : Int) == 0) 7] != 0) = true := by rw [hE.out]; simpa using hE0
    have HS : Hid (runL N D = [] ∧ runE N D = noneE N D) := by unfold Hid runL runE; rw [if_neg hE0, if_neg hE0]; exact ⟨rfl, rfl⟩
    clear hE0
    go_enter Tryz.func12, Tryz.ntmps12
    go_wp2
    refine wp_region_ords [0, 2, 3, 4, 5] [(1, false)] [6, 7, 8, 9] (by kernel_rfl) (by kernel_rfl) (fun d _ _ _ _ h => by cases d <;> exact h) ?_
    simp only [List.map_cons, List.map_nil, List.getD_cons_zero, List.getD_cons_succ]
    repeat (go_big_quiet_step (fail))
    refine wpQuiet_nil ?_
    refine wpMid_run rfl (fun K hK => ?_)
    go_simp
    refine (mtorn_any N D _ hN0.drew hD0.drew).mono ?_
    rintro e w1 ⟨rfl, hb1⟩
    refine hK _ _ (by (repeat (first | exact bl_refl | assumption | (apply bl_then; assumption) | refine bl_alloc ?_ _ | refine bl_drew ?_ | refine bl_drewN ?_ _))) ?_
    clear hK K
    (first | replace hB := hB.st0 hb1 | replace hB := hB.st1 hb1 | replace hB := hB.std hb1 | replace hB := hB.std1 hb1 | replace hB := hB.st2 hb1 | replace hB := hB.std2 hb1 | replace hB := hB.st3 hb1)
    have kB := hB.facts
    (first | replace hN0 := hN0.st0 hb1 | replace hN0 := hN0.st1 hb1 | replace hN0 := hN0.std hb1 | replace hN0 := hN0.std1 hb1 | replace hN0 := hN0.st2 hb1 | replace hN0 := hN0.std2 hb1 | replace hN0 := hN0.st3 hb1)
    (first | replace hD0 := hD0.st0 hb1 | replace hD0 := hD0.st1 hb1 | replace hD0 := hD0.std hb1 | replace hD0 := hD0.std1 hb1 | replace hD0 := hD0.st2 hb1 | replace hD0 := hD0.std2 hb1 | replace hD0 := hD0.st3 hb1)
    refine wpMid_nil ?_
    go_wp2_with (first | (go_at_call 46; refine (mwhen_any _ _ _).mono ?_; rintro e w2 ⟨rfl, hb2⟩; (first | replace hB := hB.st0 hb2 | replace hB := hB.st1 hb2 | replace hB := hB.std hb2 | replace hB := hB.std1 hb2 | replace hB := hB.st2 hb2 | replace hB := hB.std2 hb2 | replace hB := hB.st3 hb2); have kB := hB.facts; (first | replace hN0 := hN0.st0 hb2 | replace hN0 := hN0.st1 hb2 | replace hN0 := hN0.std hb2 | replace hN0 := hN0.std1 hb2 | replace hN0 := hN0.st2 hb2 | replace hN0 := hN0.std2 hb2 | replace hN0 := hN0.st3 hb2); (first | replace hD0 := hD0.st0 hb2 | replace hD0 := hD0.st1 hb2 | replace hD0 := hD0.std hb2 | replace hD0 := hD0.std1 hb2 | replace hD0 := hD0.st2 hb2 | replace hD0 := hD0.std2 hb2 | replace hD0 := hD0.st3 hb2)) | (go_at_call 44; refine (mfirst_any [tornE N D, whenI ((D.length : Int) == 0) 7] _ _ _ (by simp [maxLen]) (Rd.ints2 (by simp) (by go_simp) (by go_simp))).mono ?_; rintro e w3 ⟨rfl, hb3⟩; (first | replace hB := hB.st0 hb3 | replace hB := hB.st1 hb3 | replace hB := hB.std hb3 | replace hB := hB.std1 hb3 | replace hB := hB.st2 hb3 | replace hB := hB.std2 hb3 | replace hB := hB.st3 hb3); have kB := hB.facts; (first | replace hN0 := hN0.st0 hb3 | replace hN0 := hN0.st1 hb3 | replace hN0 := hN0.std hb3 | replace hN0 := hN0.std1 hb3 | replace hN0 := hN0.st2 hb3 | replace hN0 := hN0.std2 hb3 | replace hN0 := hN0.st3 hb3); (first | replace hD0 := hD0.st0 hb3 | replace hD0 := hD0.st1 hb3 | replace hD0 := hD0.std hb3 | replace hD0 := hD0.std1 hb3 | replace hD0 := hD0.st2 hb3 | replace hD0 := hD0.std2 hb3 | replace hD0 := hD0.st3 hb3)))
    go_ret2
    exact ⟨.slice none 0 0, by rw [HS.out.2, ← hE.out]; rfl, by rw [HS.out.1]; exact Own.nil_, by (repeat (first | exact bl_refl | assumption | (apply bl_then; assumption) | refine bl_alloc ?_ _ | refine bl_drew ?_ | refine bl_drewN ?_ _))⟩
end Go.Proofs.YtpompeancmonbaaGreat

/- Missing, Walk, Seam, CheckPatch, Inner and CheckTrim of the program, walked. Conditions: the slices read as lists. -/
namespace Go.Proofs.YtpompeancmonbaaGreat
open Go.RowKit Go.ChangeMaps
set_option maxHeartbeats 4000000
set_option maxRecDepth 100000

theorem hole_look {w : World} {h rb rk : Nat} {D : List Bar} (H : HoleAt w h rb rk D) (x y : Int) :
    (Instr.lookup 120 (.map (some rk)) (.agg #[.int .i64 x, .int .i64 y]) false).run Tryz.prog w = .ok (.agg #[.bool (legsAt D (x, y)).1, .bool (legsAt D (x, y)).2.1, .bool (legsAt D (x, y)).2.2.1, .bool (legsAt D (x, y)).2.2.2]) w := by
  obtain ⟨mk, ck, hm, _, gk⟩ := H.knots
  rw [look_legs hm x y, gk (x, y), legsO_getD]; rfl
theorem pmissing_any {v u : Value} (N D : List Bar) (x y : Int) (w : World) (hN : SlB w v N) (hD : SlB w u D) : Calls Tryz.prog 21 #[.agg #[v, u], .agg #[.int .i64 x, .int .i64 y]] w (RV w (.tuple #[.int .i64 (missR N D (x, y)), .int .i64 (twoE N D (x, y))])) := by
  have hB := (Blk.new w 27 #[v, u]).alloc (.cells #[.int .i64 x, .int .i64 y] 32)
  have hBk := Blk.new1 w (.cells #[v, u] 27) 32 #[.int .i64 x, .int .i64 y]
  have hN0 := (hN.alloc (.cells #[v, u] 27)).alloc (.cells #[.int .i64 x, .int .i64 y] 32)
  have hD0 := (hD.alloc (.cells #[v, u] 27)).alloc (.cells #[.int .i64 x, .int .i64 y] 32)
  by_cases hE0 : twoE N D (x, y) = 0
  · obtain ⟨hok, hkn⟩ := twoE_ok hE0
    have hE' : (firstI [tornE N D, knotE x y] != 0) = false := by
      have : firstI [tornE N D, knotE x y] = 0 := hE0
      rw [this]; rfl
    have HS : Hid (missR N D (x, y) = (missN D (x, y) : Int) ∧ twoE N D (x, y) = 0) := by unfold Hid missR; rw [if_pos hE0]; exact ⟨rfl, hE0⟩
    obtain ⟨⟨l0, l1, l2, l3⟩, hL⟩ : ∃ L, legsAt D (x, y) = L := ⟨_, rfl⟩
    have HM : Hid (missN D (x, y) = cnt (l0, l1, l2, l3)) := by unfold Hid missN; rw [hL]
    have hlk := fun h rb rk W (hW : HoleAt W h rb rk D) => hole_look hW x y
    rw [hL] at hlk
    clear hE0 hkn hL
    go_enter Tryz.func21, Tryz.ntmps21
    go_wp2
    refine wp_region_ords [0, 2] [(1, false)] [3, 4, 5, 6] (by kernel_rfl) (by kernel_rfl) (fun d _ _ _ _ h => by cases d <;> exact h) ?_
    simp only [List.map_cons, List.map_nil, List.getD_cons_zero, List.getD_cons_succ]
    repeat (go_big_quiet_step (fail))
    refine wpQuiet_nil ?_
    refine wpMid_run rfl (fun K hK => ?_)
    go_simp
    refine (mtorn_any N D _ hN0.drew hD0.drew).mono ?_
    rintro e w1 ⟨rfl, hb1⟩
    refine hK _ _ (by (repeat (first | exact bl_refl | assumption | (apply bl_then; assumption) | refine bl_alloc ?_ _ | refine bl_drew ?_ | refine bl_drewN ?_ _))) ?_
    clear hK K
    (first | replace hB := hB.st0 hb1 | replace hB := hB.st1 hb1 | replace hB := hB.std hb1 | replace hB := hB.std1 hb1 | replace hB := hB.st2 hb1 | replace hB := hB.std2 hb1 | replace hB := hB.st3 hb1)
    have kB := hB.facts
    (first | replace hBk := hBk.st0 hb1 | replace hBk := hBk.st1 hb1 | replace hBk := hBk.std hb1 | replace hBk := hBk.std1 hb1 | replace hBk := hBk.st2 hb1 | replace hBk := hBk.std2 hb1 | replace hBk := hBk.st3 hb1)
    have kBk := hBk.facts
    (first | replace hN0 := hN0.st0 hb1 | replace hN0 := hN0.st1 hb1 | replace hN0 := hN0.std hb1 | replace hN0 := hN0.std1 hb1 | replace hN0 := hN0.st2 hb1 | replace hN0 := hN0.std2 hb1 | replace hN0 := hN0.st3 hb1)
    (first | replace hD0 := hD0.st0 hb1 | replace hD0 := hD0.st1 hb1 | replace hD0 := hD0.std hb1 | replace hD0 := hD0.std1 hb1 | replace hD0 := hD0.st2 hb1 | replace hD0 := hD0.std2 hb1 | replace hD0 := hD0.st3 hb1)
    refine wpMid_nil ?_
    go_wp2_with (first | (go_at_call 36; refine (nknot_any x y _).mono ?_; rintro e w2 ⟨rfl, hb2⟩; (first | replace hB := hB.st0 hb2 | replace hB := hB.st1 hb2 | replace hB := hB.std hb2 | replace hB := hB.std1 hb2 | replace hB := hB.st2 hb2 | replace hB := hB.std2 hb2 | replace hB := hB.st3 hb2); have kB := hB.facts; (first | replace hBk := hBk.st0 hb2 | replace hBk := hBk.st1 hb2 | replace hBk := hBk.std hb2 | replace hBk := hBk.std1 hb2 | replace hBk := hBk.st2 hb2 | replace hBk := hBk.std2 hb2 | replace hBk := hBk.st3 hb2); have kBk := hBk.facts; (first | replace hN0 := hN0.st0 hb2 | replace hN0 := hN0.st1 hb2 | replace hN0 := hN0.std hb2 | replace hN0 := hN0.std1 hb2 | replace hN0 := hN0.st2 hb2 | replace hN0 := hN0.std2 hb2 | replace hN0 := hN0.st3 hb2); (first | replace hD0 := hD0.st0 hb2 | replace hD0 := hD0.st1 hb2 | replace hD0 := hD0.std hb2 | replace hD0 := hD0.std1 hb2 | replace hD0 := hD0.st2 hb2 | replace hD0 := hD0.std2 hb2 | replace hD0 := hD0.st3 hb2)) | (go_at_call 44; refine (mfirst_any [tornE N D, knotE x y] _ _ _ (by simp [maxLen]) (Rd.ints2 (by simp) (by go_simp) (by go_simp))).mono ?_; rintro e w3 ⟨rfl, hb3⟩; (first | replace hB := hB.st0 hb3 | replace hB := hB.st1 hb3 | replace hB := hB.std hb3 | replace hB := hB.std1 hb3 | replace hB := hB.st2 hb3 | replace hB := hB.std2 hb3 | replace hB := hB.st3 hb3); have kB := hB.facts; (first | replace hBk := hBk.st0 hb3 | replace hBk := hBk.st1 hb3 | replace hBk := hBk.std hb3 | replace hBk := hBk.std1 hb3 | replace hBk := hBk.st2 hb3 | replace hBk := hBk.std2 hb3 | replace hBk := hBk.st3 hb3); have kBk := hBk.facts; (first | replace hN0 := hN0.st0 hb3 | replace hN0 := hN0.st1 hb3 | replace hN0 := hN0.std hb3 | replace hN0 := hN0.std1 hb3 | replace hN0 := hN0.st2 hb3 | replace hN0 := hN0.std2 hb3 | replace hN0 := hN0.st3 hb3); (first | replace hD0 := hD0.st0 hb3 | replace hD0 := hD0.st1 hb3 | replace hD0 := hD0.std hb3 | replace hD0 := hD0.std1 hb3 | replace hD0 := hD0.st2 hb3 | replace hD0 := hD0.std2 hb3 | replace hD0 := hD0.st3 hb3)))
    refine wp_region_ords [0, 1, 6] [(2, false), (3, false), (4, false), (5, false)] [7, 8, 9, 10] (by kernel_rfl) (by kernel_rfl) (fun d _ _ _ _ h => by cases d <;> exact h) ?_
    simp only [List.map_cons, List.map_nil, List.getD_cons_zero, List.getD_cons_succ]
    repeat (go_big_quiet_step (fail))
    refine wpQuiet_nil ?_
    refine wpMid_run rfl (fun K hK => ?_)
    go_simp
    refine (newHole_any D _ hD0.drew hok.dam.nodup hok.dam.ok).mono ?_
    rintro e w4 ⟨h, rb, rk, rfl, _, _, _, H4, hb4⟩
    refine hK _ _ (by (repeat (first | exact bl_refl | assumption | (apply bl_then; assumption) | refine bl_alloc ?_ _ | refine bl_drew ?_ | refine bl_drewN ?_ _))) ?_
    clear hK K
    have f4 := H4.blk.facts
    have hlk4 := hlk _ _ _ _ H4
    refine wpMid_run rfl (fun K hK => ?_)
    go_simp
    refine hK _ _ (by (repeat (first | exact bl_refl | assumption | (apply bl_then; assumption) | refine bl_alloc ?_ _ | refine bl_drew ?_ | refine bl_drewN ?_ _))) ?_
    clear hK K
    refine wpMid_run rfl (fun K hK => ?_)
    go_simp
    refine hK _ _ (by (repeat (first | exact bl_refl | assumption | (apply bl_then; assumption) | refine bl_alloc ?_ _ | refine bl_drew ?_ | refine bl_drewN ?_ _))) ?_
    clear hK K
    refine wpMid_run rfl (fun K hK => ?_)
    go_simp
    refine hK _ _ (by (repeat (first | exact bl_refl | assumption | (apply bl_then; assumption) | refine bl_alloc ?_ _ | refine bl_drew ?_ | refine bl_drewN ?_ _))) ?_
    clear hK K
    refine wpMid_nil ?_
    go_wp2_with (go_at_call 57; refine (count_any l0 l1 l2 l3 _).mono ?_; rintro e w5 ⟨rfl, hb5⟩)
    go_ret2
    exact ⟨by rw [HS.out.1, HS.out.2, HM.out]; rfl, by (repeat (first | exact bl_refl | assumption | (apply bl_then; assumption) | refine bl_alloc ?_ _ | refine bl_drew ?_ | refine bl_drewN ?_ _))⟩
  · have hE' : (firstI [tornE N D, knotE x y] != 0) = true := by
      have : firstI [tornE N D, knotE x y] ≠ 0 := hE0
      simpa using this
    have HS : Hid (missR N D (x, y) = 0) := by unfold Hid missR; rw [if_neg hE0]
    clear hE0
    go_enter Tryz.func21, Tryz.ntmps21
    go_wp2
    refine wp_region_ords [0, 2] [(1, false)] [3, 4, 5, 6] (by kernel_rfl) (by kernel_rfl) (fun d _ _ _ _ h => by cases d <;> exact h) ?_
    simp only [List.map_cons, List.map_nil, List.getD_cons_zero, List.getD_cons_succ]
    repeat (go_big_quiet_step (fail))
    refine wpQuiet_nil ?_
    refine wpMid_run rfl (fun K hK => ?_)
    go_simp
    refine (mtorn_any N D _ hN0.drew hD0.drew).mono ?_
    rintro e w1 ⟨rfl, hb1⟩
    refine hK _ _ (by (repeat (first | exact bl_refl | assumption | (apply bl_then; assumption) | refine bl_alloc ?_ _ | refine bl_drew ?_ | refine bl_drewN ?_ _))) ?_
    clear hK K
    (first | replace hB := hB.st0 hb1 | replace hB := hB.st1 hb1 | replace hB := hB.std hb1 | replace hB := hB.std1 hb1 | replace hB := hB.st2 hb1 | replace hB := hB.std2 hb1 | replace hB := hB.st3 hb1)
    have kB := hB.facts
    (first | replace hBk := hBk.st0 hb1 | replace hBk := hBk.st1 hb1 | replace hBk := hBk.std hb1 | replace hBk := hBk.std1 hb1 | replace hBk := hBk.st2 hb1 | replace hBk := hBk.std2 hb1 | replace hBk := hBk.st3 hb1)
    have kBk := hBk.facts
    (first | replace hN0 := hN0.st0 hb1 | replace hN0 := hN0.st1 hb1 | replace hN0 := hN0.std hb1 | replace hN0 := hN0.std1 hb1 | replace hN0 := hN0.st2 hb1 | replace hN0 := hN0.std2 hb1 | replace hN0 := hN0.st3 hb1)
    (first | replace hD0 := hD0.st0 hb1 | replace hD0 := hD0.st1 hb1 | replace hD0 := hD0.std hb1 | replace hD0 := hD0.std1 hb1 | replace hD0 := hD0.st2 hb1 | replace hD0 := hD0.std2 hb1 | replace hD0 := hD0.st3 hb1)
    refine wpMid_nil ?_
    go_wp2_with (first | (go_at_call 36; refine (nknot_any x y _).mono ?_; rintro e w2 ⟨rfl, hb2⟩; (first | replace hB := hB.st0 hb2 | replace hB := hB.st1 hb2 | replace hB := hB.std hb2 | replace hB := hB.std1 hb2 | replace hB := hB.st2 hb2 | replace hB := hB.std2 hb2 | replace hB := hB.st3 hb2); have kB := hB.facts; (first | replace hBk := hBk.st0 hb2 | replace hBk := hBk.st1 hb2 | replace hBk := hBk.std hb2 | replace hBk := hBk.std1 hb2 | replace hBk := hBk.st2 hb2 | replace hBk := hBk.std2 hb2 | replace hBk := hBk.st3 hb2); have kBk := hBk.facts; (first | replace hN0 := hN0.st0 hb2 | replace hN0 := hN0.st1 hb2 | replace hN0 := hN0.std hb2 | replace hN0 := hN0.std1 hb2 | replace hN0 := hN0.st2 hb2 | replace hN0 := hN0.std2 hb2 | replace hN0 := hN0.st3 hb2); (first | replace hD0 := hD0.st0 hb2 | replace hD0 := hD0.st1 hb2 | replace hD0 := hD0.std hb2 | replace hD0 := hD0.std1 hb2 | replace hD0 := hD0.st2 hb2 | replace hD0 := hD0.std2 hb2 | replace hD0 := hD0.st3 hb2)) | (go_at_call 44; refine (mfirst_any [tornE N D, knotE x y] _ _ _ (by simp [maxLen]) (Rd.ints2 (by simp) (by go_simp) (by go_simp))).mono ?_; rintro e w3 ⟨rfl, hb3⟩; (first | replace hB := hB.st0 hb3 | replace hB := hB.st1 hb3 | replace hB := hB.std hb3 | replace hB := hB.std1 hb3 | replace hB := hB.st2 hb3 | replace hB := hB.std2 hb3 | replace hB := hB.st3 hb3); have kB := hB.facts; (first | replace hBk := hBk.st0 hb3 | replace hBk := hBk.st1 hb3 | replace hBk := hBk.std hb3 | replace hBk := hBk.std1 hb3 | replace hBk := hBk.st2 hb3 | replace hBk := hBk.std2 hb3 | replace hBk := hBk.st3 hb3); have kBk := hBk.facts; (first | replace hN0 := hN0.st0 hb3 | replace hN0 := hN0.st1 hb3 | replace hN0 := hN0.std hb3 | replace hN0 := hN0.std1 hb3 | replace hN0 := hN0.st2 hb3 | replace hN0 := hN0.std2 hb3 | replace hN0 := hN0.st3 hb3); (first | replace hD0 := hD0.st0 hb3 | replace hD0 := hD0.st1 hb3 | replace hD0 := hD0.std hb3 | replace hD0 := hD0.std1 hb3 | replace hD0 := hD0.st2 hb3 | replace hD0 := hD0.std2 hb3 | replace hD0 := hD0.st3 hb3)))
    go_ret2
    exact ⟨by rw [HS.out]; rfl, by (repeat (first | exact bl_refl | assumption | (apply bl_then; assumption) | refine bl_alloc ?_ _ | refine bl_drew ?_ | refine bl_drewN ?_ _))⟩

end Go.Proofs.YtpompeancmonbaaGreat

/- Patches, the inner bars and trimmings that are checked, of the program, walked. Conditions: the slices read as lists. -/
namespace Go.Proofs.YtpompeancmonbaaGreat
open Go.RowKit Go.ChangeMaps
set_option maxHeartbeats 4000000
set_option maxRecDepth 100000

def netsE (N D P : List Bar) : Int := firstI [tornE N D, netE P]
def patchE (N D P : List Bar) : Int := if netsE N D P = 0 then whenI (unk P D) 10 else netsE N D P
theorem patch_len {N D P : List Bar} (h : netsE N D P = 0) : TornOk N D ∧ NetOk P := by
  obtain ⟨h1, h2⟩ := firstI_zero h
  exact ⟨torn_ok h1, netE_ok h2⟩
theorem clone_any {v : Value} (l : List Bar) (w : World) (h : SlB w v l) (hlen : l.length ≤ 100000) : Calls Tryz.prog 40 #[v] w (RB w l) := by
  obtain ⟨A, c, rfl, hlc, hcm, hr⟩ := h
  cases A with
  | none =>
    have hl : l = [] := by
      cases l with
      | nil => rfl
      | cons x r =>
        obtain ⟨b, off, he, _⟩ := hr 0 x rfl
        cases he
    subst hl
    have heq : ∀ W, (binOp .eql 22 (.slice none 0 c) (.slice none 0 0)).run Tryz.prog W = .ok (.bool true) W := fun W => Lib.run_eql_slice_nil (P := Tryz.prog) W 22 46 none 0 c 0 0 Tryz.underlying22
    go_enter Tryz.func40, Tryz.ntmps40
    go_wp2
    go_ret
    exact ⟨_, rfl, Own.nil_, by (repeat (first | exact bl_refl | assumption | (apply bl_then; assumption) | refine bl_alloc ?_ _ | refine bl_drew ?_ | refine bl_drewN ?_ _))⟩
  | some a =>
    have h : SlB w (.slice (some a) l.length c) l := ⟨some a, c, rfl, hlc, hcm, hr⟩
    clear hr
    have heq : ∀ W, (binOp .eql 22 (.slice (some a) l.length c) (.slice none 0 0)).run Tryz.prog W = .ok (.bool false) W := fun W => Lib.run_eql_slice_nil (P := Tryz.prog) W 22 46 (some a) l.length c 0 0 Tryz.underlying22
    go_enter Tryz.func40, Tryz.ntmps40
    go_wp2_with (at_builtin; refine wpList_appBS (Own.empty bc 3 w _) (h.alloc _) rfl _ _ rfl rfl rfl (by simp; omega) (by simp) ?_; intro v2 w2 hown2 hgr2)
    have hb2 : Below w.heap.size w w2 := bl_grown hgr2 (bl_alloc bl_refl _) fun k hk => by simp [Value.ownBlock] at hk; omega
    go_ret
    exact ⟨_, rfl, by simpa using hown2, hb2⟩

/-! ## the seam of a patch -/
def seamN (N D P : List Bar) : List Bar := if patchE N D P = 0 then N else []
def seamD (N D P : List Bar) : List Bar := if patchE N D P = 0 then wout D P else []
theorem patch_ok {N D P : List Bar} (h : patchE N D P = 0) : TornOk N D ∧ NetOk P ∧ ∀ b ∈ P, b ∈ D := by
  unfold patchE at h
  split at h
  · rename_i h1
    obtain ⟨h2, h3⟩ := patch_len h1
    refine ⟨h2, h3, fun b hb => ?_⟩
    by_cases hbD : b ∈ D
    · exact hbD
    · exfalso
      have : unk P D = true := List.any_eq_true.2 ⟨b, hb, by simp [hasb, hbD]⟩
      simp [whenI, this] at h
  · rename_i h1; exact absurd h h1
def RTE (w : World) (a b : List Bar) (n : Int) (e : Ending) (w' : World) : Prop := ∃ v1 v2, e = .returned (.tuple #[.agg #[v1, v2], .int .i64 n]) ∧ OwB w.heap.size w' v1 a ∧ OwB w.heap.size w' v2 b ∧ (∀ i j, v1.ownBlock = some i → v2.ownBlock = some j → i ≠ j) ∧ Below w.heap.size w w'
end Go.Proofs.YtpompeancmonbaaGreat

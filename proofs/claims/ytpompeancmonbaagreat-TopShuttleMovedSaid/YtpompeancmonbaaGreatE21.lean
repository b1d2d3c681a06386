/- The least trimming of a torn net, of the program, walked. Conditions: slices that read as lists. -/
import Derived.Test.YtpompeancmonbaaGreatE18
import Derived.Test.YtpompeancmonbaaGreatE20
import Derived.Test.YtpompeancmonbaaGreatE19
import Derived.Test.YtpompeancmonbaaGreatE11
import Derived.Laws.CopyRow
namespace Go.Proofs.YtpompeancmonbaaGreat
open Go.RowKit Go.ChangeMaps
set_option maxHeartbeats 4000000
set_option maxRecDepth 100000

def trimF (D S : List Bar) : Nat → Nat → Option (List Bar)
  | 0, _ => none
  | f + 1, n => match srch n D S with
    | some x => some x
    | none => trimF D S f (n + 1)
def leastO (N D : List Bar) (m : Int) : Option (List Bar) := trimF D (wout N D) (m.toNat + 1) 0
def leastP (N D : List Bar) (m : Int) : Int := firstI [tornE N D, withinI m 0 4, whenI (decide ((64 : Int) < N.length)) 22]
def leastE (N D : List Bar) (m : Int) : Int := if leastP N D m = 0 then (if (leastO N D m).isSome then 0 else 23) else leastP N D m
def leastL (N D : List Bar) (m : Int) : List Bar := if leastE N D m = 0 then (leastO N D m).getD [] else []

theorem app_nodup {N D : List Bar} (h : N.Nodup) (hD : D.Nodup) : (D ++ wout N D).Nodup := by
  rw [List.nodup_append]
  refine ⟨hD, h.filter _, fun a ha b hb e => ?_⟩
  subst e
  have := (List.mem_filter.1 hb).2
  simp [hasb, ha] at this

theorem trim_any {v u : Value} (N D : List Bar) (m : Int) (w : World) (hN : SlB w v N) (hD : SlB w u D) : Calls Tryz.prog 13 #[.agg #[v, u], .int .i64 m] w (RBE w (leastL N D m) (leastE N D m)) := by
  have hB := Blk.new w 27 #[v, u]
  have hN0 := hN.alloc (.cells #[v, u] 27)
  have hD0 := hD.alloc (.cells #[v, u] 27)
  obtain ⟨A, c, rfl, hlc, hcm, hr⟩ := hN
  clear hr
  by_cases hE0 : leastP N D m = 0
  · have hE' : (firstI [tornE N D, withinI m 0 4, whenI (decide ((64 : Int) < N.length)) 22] != 0) = false := by
      have : firstI [tornE N D, withinI m 0 4, whenI (decide ((64 : Int) < N.length)) 22] = 0 := hE0
      rw [this]; rfl
    obtain ⟨z1, z2, z3⟩ := firstI_zero3 hE0
    have hok := torn_ok z1
    obtain ⟨m1, m2⟩ := within_zero z2
    obtain ⟨mn, rfl⟩ : ∃ mn : Nat, m = mn := ⟨m.toNat, by omega⟩
    have HS : Hid (leastE N D mn = if (trimF D (wout N D) (mn + 1) 0).isSome then 0 else 23) := by unfold Hid leastE; rw [if_pos hE0]; rfl
    have HO : Hid (leastO N D mn = trimF D (wout N D) (mn + 1) 0) := rfl
    have hnl := hok.lens.1
    have hdn := app_nodup hok.net.nodup hok.dam.nodup
    have hbk : ∀ b ∈ D ++ wout N D, BarOk b := fun b hb => by
      rcases List.mem_append.1 hb with h | h
      · exact hok.dam.ok b h
      · exact hok.net.ok b (List.mem_filter.1 h).1
    have hll : (D ++ wout N D).length ≤ 100000 := by
      have e1 : (wout N D).length ≤ N.length := List.length_filter_le _ _
      have := hok.net.len
      have := hok.dam.len
      rw [List.length_append]
      omega
    have HX := Lib.hid (⟨hdn, hbk, hll⟩ : (D ++ wout N D).Nodup ∧ (∀ b ∈ D ++ wout N D, BarOk b) ∧ (D ++ wout N D).length ≤ 100000)
    have hmn : mn ≤ 4 := by omega
    clear hE0 z1 z2 z3 hdn hbk hll m1 m2
    go_enter Tryz.func13, Tryz.ntmps13
    go_wp2
    refine wp_region_ords [0, 2, 4, 5, 6, 7] [(1, false), (3, false)] [8, 9, 10, 11] (by kernel_rfl) (by kernel_rfl) (fun d _ _ _ _ h => by cases d <;> exact h) ?_
    simp only [List.map_cons, List.map_nil, List.getD_cons_zero, List.getD_cons_succ]
    repeat (go_big_quiet_step (fail))
    refine wpQuiet_nil ?_
    refine wpMid_run rfl (fun K hK => ?_)
    go_simp
    refine (mtorn_any N D _ hN0.drew hD0.drew).mono ?_
    rintro e w1 ⟨rfl, hb1⟩
    refine hK _ _ (by (repeat (first | exact bl_refl | assumption | (apply bl_then; assumption) | refine bl_alloc ?_ _ | refine bl_drew ?_ | refine bl_drewN ?_ _))) ?_
    clear hK K
    (first | replace hB := hB.st0 hb1 | replace hB := hB.st1 hb1 | replace hB := hB.std hb1 | replace hB := hB.std1 hb1 | replace hB := hB.st2 hb1 | replace hB := hB.std2 hb1 | replace hB := hB.st3 hb1)
    have kB := hB.facts
    (first | replace hN0 := hN0.st0 hb1 | replace hN0 := hN0.st1 hb1 | replace hN0 := hN0.std hb1 | replace hN0 := hN0.std1 hb1 | replace hN0 := hN0.st2 hb1 | replace hN0 := hN0.std2 hb1 | replace hN0 := hN0.st3 hb1)
    (first | replace hD0 := hD0.st0 hb1 | replace hD0 := hD0.st1 hb1 | replace hD0 := hD0.std hb1 | replace hD0 := hD0.std1 hb1 | replace hD0 := hD0.st2 hb1 | replace hD0 := hD0.std2 hb1 | replace hD0 := hD0.st3 hb1)
    refine wpMid_run rfl (fun K hK => ?_)
    go_simp
    refine (mwithin_any mn 0 4 _).mono ?_
    rintro e w2 ⟨rfl, hb2⟩
    refine hK _ _ (by (repeat (first | exact bl_refl | assumption | (apply bl_then; assumption) | refine bl_alloc ?_ _ | refine bl_drew ?_ | refine bl_drewN ?_ _))) ?_
    clear hK K
    (first | replace hB := hB.st0 hb2 | replace hB := hB.st1 hb2 | replace hB := hB.std hb2 | replace hB := hB.std1 hb2 | replace hB := hB.st2 hb2 | replace hB := hB.std2 hb2 | replace hB := hB.st3 hb2)
    have kB := hB.facts
    (first | replace hN0 := hN0.st0 hb2 | replace hN0 := hN0.st1 hb2 | replace hN0 := hN0.std hb2 | replace hN0 := hN0.std1 hb2 | replace hN0 := hN0.st2 hb2 | replace hN0 := hN0.std2 hb2 | replace hN0 := hN0.st3 hb2)
    (first | replace hD0 := hD0.st0 hb2 | replace hD0 := hD0.st1 hb2 | replace hD0 := hD0.std hb2 | replace hD0 := hD0.std1 hb2 | replace hD0 := hD0.st2 hb2 | replace hD0 := hD0.std2 hb2 | replace hD0 := hD0.st3 hb2)
    refine wpMid_nil ?_
    go_wp2_with (first | (go_at_call 46; refine (mwhen_any _ _ _).mono ?_; rintro e w3 ⟨rfl, hb3⟩; (first | replace hB := hB.st0 hb3 | replace hB := hB.st1 hb3 | replace hB := hB.std hb3 | replace hB := hB.std1 hb3 | replace hB := hB.st2 hb3 | replace hB := hB.std2 hb3 | replace hB := hB.st3 hb3); have kB := hB.facts; (first | replace hN0 := hN0.st0 hb3 | replace hN0 := hN0.st1 hb3 | replace hN0 := hN0.std hb3 | replace hN0 := hN0.std1 hb3 | replace hN0 := hN0.st2 hb3 | replace hN0 := hN0.std2 hb3 | replace hN0 := hN0.st3 hb3); (first | replace hD0 := hD0.st0 hb3 | replace hD0 := hD0.st1 hb3 | replace hD0 := hD0.std hb3 | replace hD0 := hD0.std1 hb3 | replace hD0 := hD0.st2 hb3 | replace hD0 := hD0.std2 hb3 | replace hD0 := hD0.st3 hb3)) | (go_at_call 44; refine (mfirst_any [tornE N D, withinI mn 0 4, whenI (decide ((64 : Int) < N.length)) 22] _ _ _ (by simp [maxLen]) (Rd.ints3 (by simp) (by go_simp) (by go_simp) (by go_simp))).mono ?_; rintro e w4 ⟨rfl, hb4⟩; (first | replace hB := hB.st0 hb4 | replace hB := hB.st1 hb4 | replace hB := hB.std hb4 | replace hB := hB.std1 hb4 | replace hB := hB.st2 hb4 | replace hB := hB.std2 hb4 | replace hB := hB.st3 hb4); have kB := hB.facts; (first | replace hN0 := hN0.st0 hb4 | replace hN0 := hN0.st1 hb4 | replace hN0 := hN0.std hb4 | replace hN0 := hN0.std1 hb4 | replace hN0 := hN0.st2 hb4 | replace hN0 := hN0.std2 hb4 | replace hN0 := hN0.st3 hb4); (first | replace hD0 := hD0.st0 hb4 | replace hD0 := hD0.st1 hb4 | replace hD0 := hD0.std hb4 | replace hD0 := hD0.std1 hb4 | replace hD0 := hD0.st2 hb4 | replace hD0 := hD0.std2 hb4 | replace hD0 := hD0.st3 hb4)))
    have hbw4 : Below w.heap.size w w4 := by (repeat (first | exact bl_refl | assumption | (apply bl_then; assumption) | refine bl_alloc ?_ _ | refine bl_drew ?_ | refine bl_drewN ?_ _))
    refine wp_region_ords [0, 1, 3, 4, 5, 6] [(2, false)] [7, 8, 9] (by kernel_rfl) (by kernel_rfl) (fun d _ _ _ _ h => by cases d <;> exact h) ?_
    simp only [List.map_cons, List.map_nil, List.getD_cons_zero, List.getD_cons_succ]
    repeat (go_big_quiet_step (fail))
    refine wpQuiet_nil ?_
    refine wpMid_run rfl (fun K hK => ?_)
    go_simp
    refine (newHole_any D _ hD0.drew hok.dam.nodup hok.dam.ok).mono ?_
    rintro e w5 ⟨h, rb, rk, rfl, hh5, hrb5, hrk5, H5, hb5⟩
    refine hK _ _ (by (repeat (first | exact bl_refl | assumption | (apply bl_then; assumption) | refine bl_alloc ?_ _ | refine bl_drew ?_ | refine bl_drewN ?_ _))) ?_
    clear hK K
    (first | replace hB := hB.st0 hb5 | replace hB := hB.st1 hb5 | replace hB := hB.std hb5 | replace hB := hB.std1 hb5 | replace hB := hB.st2 hb5 | replace hB := hB.std2 hb5 | replace hB := hB.st3 hb5)
    have kB := hB.facts
    (first | replace hN0 := hN0.st0 hb5 | replace hN0 := hN0.st1 hb5 | replace hN0 := hN0.std hb5 | replace hN0 := hN0.std1 hb5 | replace hN0 := hN0.st2 hb5 | replace hN0 := hN0.std2 hb5 | replace hN0 := hN0.st3 hb5)
    (first | replace hD0 := hD0.st0 hb5 | replace hD0 := hD0.st1 hb5 | replace hD0 := hD0.std hb5 | replace hD0 := hD0.std1 hb5 | replace hD0 := hD0.st2 hb5 | replace hD0 := hD0.std2 hb5 | replace hD0 := hD0.st3 hb5)
    refine wpMid_nil ?_
    go_wp2_with (go_at_call 50; refine (without_any N D _ hN0 hD0 hnl).mono ?_; rintro e w6 ⟨v6, rfl, hown6, hb6⟩)
    have H6 := H5.below hb6
    have hbw6 : Below w.heap.size w w6 := by (repeat (first | exact bl_refl | assumption | (apply bl_then; assumption) | refine bl_alloc ?_ _ | refine bl_drew ?_ | refine bl_drewN ?_ _))
    have hw4 := hbw4.size
    have hS6 := hown6.rd bc_len
    simp only [World.size_drew] at hrb5 hrk5
    have T0 : Hid (trimF D (wout N D) (mn + 1) 0 = trimF D (wout N D) (mn + 1 - 0) 0) := rfl
    go_loopw [36] (fun i wr => ∃ k : Nat, k ≤ mn + 1 ∧ i = .int .i64 k ∧ HoleAt wr h rb rk D ∧ Chg [rb, rk] w6 wr ∧ Hid (trimF D (wout N D) (mn + 1) 0 = trimF D (wout N D) (mn + 1 - k) k)) (fun i _ => mn + 1 - (intOf i).toNat)
    case atStart => exact ⟨0, Nat.zero_le _, rfl, H6, Chg.refl, T0⟩
    case round =>
      obtain ⟨k, hk, rfl, H, hc, HK⟩ := hrel
      have hbwr : Below w.heap.size w wr := ((Chg.of_below (S := [rb, rk]) hbw6).trans hc).below (by simp; omega) (Nat.le_refl _)
      by_cases hlt : k < mn + 1
      · have hSr := sl_chg hS6 bc_pos H6 hc
        obtain ⟨h1, h2, h3⟩ := HX.out
        have hsr := search_any k (by omega) D (wout N D) _ wr h rb rk H hSr h1 h2 h3
        clear h1 h2 h3
        have hcl : ((k : Int) < (mn : Int) + 1) = True := by simp; omega
        obtain ⟨f, hf⟩ : ∃ f, mn + 1 - k = f + 1 := ⟨mn - k, by omega⟩
        have HK2 : Hid (trimF D (wout N D) (mn + 1) 0 = match srch k D (wout N D) with
            | some x => some x
            | none => trimF D (wout N D) f (k + 1)) := by unfold Hid; rw [HK.out, hf]; rfl
        obtain ⟨o, ho⟩ : ∃ o, srch k D (wout N D) = o := ⟨_, rfl⟩
        rw [ho] at hsr HK2
        clear ho
        cases o with
        | none =>
          go_wp2_with (go_at_call 51; refine hsr.mono ?_; rintro e w7 ⟨v7, rfl, hown7, H7, hc7⟩)
          go_roundw
          case rel => exact ⟨k + 1, by omega, by go_num, H7, hc.trans hc7, by unfold Hid; rw [HK2.out, show mn + 1 - (k + 1) = f by omega]⟩
          case measure => simp [intOf]; omega
        | some z =>
          have hz : Hid (leastE N D mn = 0 ∧ leastL N D mn = z) := by
            have h1 : leastE N D mn = 0 := by rw [HS.out, HK2.out]; rfl
            exact ⟨h1, by unfold leastL; rw [if_pos h1, HO.out, HK2.out]; rfl⟩
          have hw := hbwr.size
          go_wp2_with (go_at_call 51; refine hsr.mono ?_; rintro e w7 ⟨v7, rfl, hown7, H7, hc7⟩)
          go_ret2
          exact ⟨v7, by rw [hz.out.1]; rfl, by rw [hz.out.2]; exact hown7.base_mono hw, ((Chg.of_below (S := [rb, rk]) hbw6).trans (hc.trans hc7)).below (by simp; omega) (Nat.le_refl _)⟩
      · have hkm : k = mn + 1 := by omega
        have hcl : ((k : Int) < (mn : Int) + 1) = False := by simp; omega
        have hz : Hid (leastE N D mn = 23 ∧ leastL N D mn = []) := by
          have h1 : leastE N D mn = 23 := by rw [HS.out, HK.out, hkm, Nat.sub_self]; rfl
          exact ⟨h1, by unfold leastL; rw [h1]; rfl⟩
        go_wp2
        go_ret2
        exact ⟨.slice none 0 0, by rw [hz.out.1]; rfl, by rw [hz.out.2]; exact Own.nil_, hbwr⟩
  · have hE' : (firstI [tornE N D, withinI m 0 4, whenI (decide ((64 : Int) < N.length)) 22] != 0) = true := by
      have : firstI [tornE N D, withinI m 0 4, whenI (decide ((64 : Int) < N.length)) 22] ≠ 0 := hE0
      simpa using this
    have HS : Hid (leastL N D m = [] ∧ leastE N D m = leastP N D m) := by
      have : leastE N D m = leastP N D m := by unfold leastE; rw [if_neg hE0]
      exact ⟨by unfold leastL; rw [this, if_neg hE0], this⟩
    clear hE0
    go_enter Tryz.func13, Tryz.ntmps13
    go_wp2
    refine wp_region_ords [0, 2, 4, 5, 6, 7] [(1, false), (3, false)] [8, 9, 10, 11] (by kernel_rfl) (by kernel_rfl) (fun d _ _ _ _ h => by cases d <;> exact h) ?_
    simp only [List.map_cons, List.map_nil, List.getD_cons_zero, List.getD_cons_succ]
    repeat (go_big_quiet_step (fail))
    refine wpQuiet_nil ?_
    refine wpMid_run rfl (fun K hK => ?_)
    go_simp
    refine (mtorn_any N D _ hN0.drew hD0.drew).mono ?_
    rintro e w1 ⟨rfl, hb1⟩
    refine hK _ _ (by (repeat (first | exact bl_refl | assumption | (apply bl_then; assumption) | refine bl_alloc ?_ _ | refine bl_drew ?_ | refine bl_drewN ?_ _))) ?_
    clear hK K
    (first | replace hB := hB.st0 hb1 | replace hB := hB.st1 hb1 | replace hB := hB.std hb1 | replace hB := hB.std1 hb1 | replace hB := hB.st2 hb1 | replace hB := hB.std2 hb1 | replace hB := hB.st3 hb1)
    have kB := hB.facts
    (first | replace hN0 := hN0.st0 hb1 | replace hN0 := hN0.st1 hb1 | replace hN0 := hN0.std hb1 | replace hN0 := hN0.std1 hb1 | replace hN0 := hN0.st2 hb1 | replace hN0 := hN0.std2 hb1 | replace hN0 := hN0.st3 hb1)
    (first | replace hD0 := hD0.st0 hb1 | replace hD0 := hD0.st1 hb1 | replace hD0 := hD0.std hb1 | replace hD0 := hD0.std1 hb1 | replace hD0 := hD0.st2 hb1 | replace hD0 := hD0.std2 hb1 | replace hD0 := hD0.st3 hb1)
    refine wpMid_run rfl (fun K hK => ?_)
    go_simp
    refine (mwithin_any m 0 4 _).mono ?_
    rintro e w2 ⟨rfl, hb2⟩
    refine hK _ _ (by (repeat (first | exact bl_refl | assumption | (apply bl_then; assumption) | refine bl_alloc ?_ _ | refine bl_drew ?_ | refine bl_drewN ?_ _))) ?_
    clear hK K
    (first | replace hB := hB.st0 hb2 | replace hB := hB.st1 hb2 | replace hB := hB.std hb2 | replace hB := hB.std1 hb2 | replace hB := hB.st2 hb2 | replace hB := hB.std2 hb2 | replace hB := hB.st3 hb2)
    have kB := hB.facts
    (first | replace hN0 := hN0.st0 hb2 | replace hN0 := hN0.st1 hb2 | replace hN0 := hN0.std hb2 | replace hN0 := hN0.std1 hb2 | replace hN0 := hN0.st2 hb2 | replace hN0 := hN0.std2 hb2 | replace hN0 := hN0.st3 hb2)
    (first | replace hD0 := hD0.st0 hb2 | replace hD0 := hD0.st1 hb2 | replace hD0 := hD0.std hb2 | replace hD0 := hD0.std1 hb2 | replace hD0 := hD0.st2 hb2 | replace hD0 := hD0.std2 hb2 | replace hD0 := hD0.st3 hb2)
    refine wpMid_nil ?_
    go_wp2_with (first | (go_at_call 46; refine (mwhen_any _ _ _).mono ?_; rintro e w3 ⟨rfl, hb3⟩; (first | replace hB := hB.st0 hb3 | replace hB := hB.st1 hb3 | replace hB := hB.std hb3 | replace hB := hB.std1 hb3 | replace hB := hB.st2 hb3 | replace hB := hB.std2 hb3 | replace hB := hB.st3 hb3); have kB := hB.facts; (first | replace hN0 := hN0.st0 hb3 | replace hN0 := hN0.st1 hb3 | replace hN0 := hN0.std hb3 | replace hN0 := hN0.std1 hb3 | replace hN0 := hN0.st2 hb3 | replace hN0 := hN0.std2 hb3 | replace hN0 := hN0.st3 hb3); (first | replace hD0 := hD0.st0 hb3 | replace hD0 := hD0.st1 hb3 | replace hD0 := hD0.std hb3 | replace hD0 := hD0.std1 hb3 | replace hD0 := hD0.st2 hb3 | replace hD0 := hD0.std2 hb3 | replace hD0 := hD0.st3 hb3)) | (go_at_call 44; refine (mfirst_any [tornE N D, withinI m 0 4, whenI (decide ((64 : Int) < N.length)) 22] _ _ _ (by simp [maxLen]) (Rd.ints3 (by simp) (by go_simp) (by go_simp) (by go_simp))).mono ?_; rintro e w4 ⟨rfl, hb4⟩; (first | replace hB := hB.st0 hb4 | replace hB := hB.st1 hb4 | replace hB := hB.std hb4 | replace hB := hB.std1 hb4 | replace hB := hB.st2 hb4 | replace hB := hB.std2 hb4 | replace hB := hB.st3 hb4); have kB := hB.facts; (first | replace hN0 := hN0.st0 hb4 | replace hN0 := hN0.st1 hb4 | replace hN0 := hN0.std hb4 | replace hN0 := hN0.std1 hb4 | replace hN0 := hN0.st2 hb4 | replace hN0 := hN0.std2 hb4 | replace hN0 := hN0.st3 hb4); (first | replace hD0 := hD0.st0 hb4 | replace hD0 := hD0.st1 hb4 | replace hD0 := hD0.std hb4 | replace hD0 := hD0.std1 hb4 | replace hD0 := hD0.st2 hb4 | replace hD0 := hD0.std2 hb4 | replace hD0 := hD0.st3 hb4)))
    go_ret2
    exact ⟨.slice none 0 0, by rw [HS.out.2]; rfl, by rw [HS.out.1]; exact Own.nil_, by (repeat (first | exact bl_refl | assumption | (apply bl_then; assumption) | refine bl_alloc ?_ _ | refine bl_drew ?_ | refine bl_drewN ?_ _))⟩
end Go.Proofs.YtpompeancmonbaaGreat

/- The bars that a walk passes, of the program, walked. Conditions: the walk's knots within bounds, a bar between each two. -/
namespace Go.Proofs.YtpompeancmonbaaGreat
open Go.RowKit Go.ChangeMaps
set_option maxHeartbeats 4000000
set_option maxRecDepth 100000

theorem passP_drop {l : List Knot} {k : Nat} (hk : k + 1 < l.length) : passP (l.drop k) = btwB l[k] l[k + 1] :: passP (l.drop (k + 1)) := by
  rw [List.drop_eq_getElem_cons (show k < l.length by omega), List.drop_eq_getElem_cons hk]; rfl
theorem passP_end {l : List Knot} {k : Nat} (hk : l.length ≤ k + 1) : passP (l.drop k) = [] := by
  rcases Nat.lt_or_ge k l.length with h | h
  · rw [List.drop_eq_getElem_cons h, List.drop_eq_nil_of_le (by omega)]; rfl
  · rw [List.drop_eq_nil_of_le h]; rfl
theorem passed_any {v : Value} (l : List Knot) (w : World) (h : SlK w v l) (hadj : adjAll l = true) (hnear : ∀ k ∈ l, nearK k) (hlen : l.length ≤ 100000) : Calls Tryz.prog 65 #[v] w (RB w (passP l)) := by
  obtain ⟨A, c, rfl, hlc, hcm, h⟩ := h
  have hl : l.length ≤ maxLen := Nat.le_trans hlc hcm
  unfold maxLen at hl
  obtain ⟨m, hm⟩ : ∃ m, l.length - 1 = m := ⟨_, rfl⟩
  have hmx : max (0 : Int) ((l.length : Int) - 1) = (m : Int) := by omega
  have HN := Lib.hid hnear
  have HA := Lib.hid hadj
  clear hnear hadj
  go_enter Tryz.func65, Tryz.ntmps65
  go_wp2
  go_loopw [3, 11] (fun o i wr => ∃ (k : Nat) (acc : List Bar), k ≤ m ∧ i = .int .i64 k ∧ acc.length = k ∧ Hid (acc ++ passP (l.drop k) = passP l) ∧ Hid (adjAll (l.drop k) = true) ∧ OwB w.heap.size wr o acc ∧ Below w.heap.size w wr) (fun _ i _ => m - (intOf i).toNat)
  case atStart => exact ⟨0, [], Nat.zero_le _, rfl, rfl, rfl, HA, Own.nil_, by (repeat (first | exact bl_refl | assumption | (apply bl_then; assumption) | refine bl_alloc ?_ _ | refine bl_drew ?_ | refine bl_drewN ?_ _))⟩
  case round =>
    obtain ⟨k, acc, hk, rfl, hal, H, HD, hown, hbw⟩ := hrel
    have HAL := Lib.hid hal
    have hal2 : acc.length ≤ 1000000 := by omega
    clear hal
    by_cases hlt : k < m
    · have hr := h.below hbw
      have hlt1 : k < l.length := by omega
      have hlt2 : k + 1 < l.length := by omega
      obtain ⟨b, off, rfl, hb, e0, e1⟩ := hr.knot hlt1
      obtain ⟨_, e2, e3⟩ := hr.knotAt hlt2
      have hdr := HD.out
      rw [adjAll_drop hlt2, Bool.and_eq_true] at hdr
      have hnk : nearK (l[k].1, l[k].2) := HN.out _ (List.getElem_mem hlt1)
      have hbt := fun W => between_any l[k].1 l[k].2 l[k + 1].1 l[k + 1].2 W hnk
      have hadj1 : adjB (l[k].1, l[k].2) (l[k + 1].1, l[k + 1].2) = true := hdr.1
      have hbe : betw (l[k].1, l[k].2) (l[k + 1].1, l[k + 1].2) = btwB l[k] l[k + 1] := by unfold betw; rw [hadj1]; rfl
      obtain ⟨⟨bx, by_, bs⟩, hbb⟩ : ∃ z, btwB l[k] l[k + 1] = z := ⟨_, rfl⟩
      rw [hbe, hbb, hadj1] at hbt
      have HB : Hid ((acc ++ [(bx, by_, bs)]) ++ passP (l.drop (k + 1)) = passP l ∧ adjAll (l.drop (k + 1)) = true) := by
        refine ⟨?_, hdr.2⟩
        rw [← H.out, passP_drop hlt2, hbb, List.append_assoc]; rfl
      clear hdr hadj1 hbe hbb HD H
      go_wp2
      refine wp_region_tree [0, 1, 2, 3, 4, 5, 6, 7, 8] (.alt (.br 9 (.take 10 (.take 11 (.take 12 (.alt (.br 13 (.alt (.br 14 (.fin) (.stop))) (.stop)))))) (.br 13 (.alt (.br 9 (.take 10 (.take 11 (.take 12 (.alt (.br 14 (.fin) (.stop)))))) (.stop))) (.stop)))) [15] (by kernel_rfl) (by kernel_rfl) (fun d _ _ _ _ h => by cases d <;> exact h) ?_
      simp only [List.map_cons, List.map_nil, List.getD_cons_zero, List.getD_cons_succ]
      repeat (go_big_quiet_step (fail))
      refine wpQuiet_nil ?_
      refine wpTree_alt (wpTree_br rfl rfl ?_ (wpTree_br rfl rfl ?_ wpTree_stop))
      · intro K hK
        go_simp
        refine (hbt _).mono ?_
        rintro e w4 ⟨rfl, hb4⟩
        refine hK _ _ (by (repeat (first | exact bl_refl | assumption | (apply bl_then; assumption) | refine bl_alloc ?_ _ | refine bl_drew ?_ | refine bl_drewN ?_ _))) ?_
        clear hK K
        refine wpTree_take rfl rfl ?_
        intro K hK; simp only [Array.getD_eq_getD_getElem?, List.getElem?_toArray, List.getElem?_cons_succ, List.getElem?_cons_zero, Option.getD_some]; go_big_quiet_op; go_big_quiet_on
        refine wpTree_take rfl rfl ?_
        intro K hK; simp only [Array.getD_eq_getD_getElem?, List.getElem?_toArray, List.getElem?_cons_succ, List.getElem?_cons_zero, Option.getD_some]; go_big_quiet_op; go_big_quiet_on
        refine wpTree_take rfl rfl ?_
        intro K hK; simp only [Array.getD_eq_getD_getElem?, List.getElem?_toArray, List.getElem?_cons_succ, List.getElem?_cons_zero, Option.getD_some]; go_big_quiet_op; go_big_quiet_on
        refine wpTree_alt (wpTree_br rfl rfl ?_ wpTree_stop)
        intro K hK
        go_simp
        refine hK _ _ (by (repeat (first | exact bl_refl | assumption | (apply bl_then; assumption) | refine bl_alloc ?_ _ | refine bl_drew ?_ | refine bl_drewN ?_ _))) ?_
        clear hK K
        refine wpTree_alt (wpTree_br rfl rfl ?_ wpTree_stop)
        intro K hK
        go_simp
        refine hK _ _ (by (repeat (first | exact bl_refl | assumption | (apply bl_then; assumption) | refine bl_alloc ?_ _ | refine bl_drew ?_ | refine bl_drewN ?_ _))) ?_
        clear hK K
        refine wpTree_fin ?_
        have hown4 := (hown.below (bl_d hb4)).alloc (.cells #[.int .i64 bx, .int .i64 by_, .int .i64 bs] 46)
        have hbw4 : Below w.heap.size w (w4.alloc (.cells #[.int .i64 bx, .int .i64 by_, .int .i64 bs] 46)) := by (repeat (first | exact bl_refl | assumption | (apply bl_then; assumption) | refine bl_alloc ?_ _ | refine bl_drew ?_ | refine bl_drewN ?_ _))
        go_wp2_with (at_builtin; refine wpList_appB1 hown4 rfl _ _ rfl rfl rfl (by simp) (by omega) hbw4.size ?_; intro v6 w6 hown6 hgr6)
        have hbw6 := own_step hown4 hgr6 (by (repeat (first | exact bl_refl | assumption | (apply bl_then; assumption) | refine bl_alloc ?_ _ | refine bl_drew ?_ | refine bl_drewN ?_ _)))
        go_roundw
        case rel => exact ⟨k + 1, acc ++ [(bx, by_, bs)], by omega, by go_num, by simp [HAL.out], HB.out.1, HB.out.2, hown6, hbw6⟩
        case measure => simp [intOf]; omega
      · intro K hK
        go_simp
        refine hK _ _ (by (repeat (first | exact bl_refl | assumption | (apply bl_then; assumption) | refine bl_alloc ?_ _ | refine bl_drew ?_ | refine bl_drewN ?_ _))) ?_
        clear hK K
        refine wpTree_alt (wpTree_br rfl rfl ?_ wpTree_stop)
        intro K hK
        go_simp
        refine (hbt _).mono ?_
        rintro e w4 ⟨rfl, hb4⟩
        refine hK _ _ (by (repeat (first | exact bl_refl | assumption | (apply bl_then; assumption) | refine bl_alloc ?_ _ | refine bl_drew ?_ | refine bl_drewN ?_ _))) ?_
        clear hK K
        have hBb := (Blk.new wr 46 #[.int .i64 0, .int .i64 0, .int .i64 0]).below (bl_d hb4)
        have fBb := hBb.facts
        refine wpTree_take rfl rfl ?_
        intro K hK; simp only [Array.getD_eq_getD_getElem?, List.getElem?_toArray, List.getElem?_cons_succ, List.getElem?_cons_zero, Option.getD_some]; go_big_quiet_op; go_big_quiet_on
        refine wpTree_take rfl rfl ?_
        intro K hK; simp only [Array.getD_eq_getD_getElem?, List.getElem?_toArray, List.getElem?_cons_succ, List.getElem?_cons_zero, Option.getD_some]; go_big_quiet_op; go_big_quiet_on
        refine wpTree_take rfl rfl ?_
        intro K hK; simp only [Array.getD_eq_getD_getElem?, List.getElem?_toArray, List.getElem?_cons_succ, List.getElem?_cons_zero, Option.getD_some]; go_big_quiet_op; go_big_quiet_on
        refine wpTree_alt (wpTree_br rfl rfl ?_ wpTree_stop)
        intro K hK
        go_simp
        refine hK _ _ ?_ ?_
        · exact bl_set3 (by (repeat (first | exact bl_refl | assumption | (apply bl_then; assumption) | refine bl_alloc ?_ _ | refine bl_drew ?_ | refine bl_drewN ?_ _))) (Nat.le_refl _) _ _ _
        clear hK K
        refine wpTree_fin ?_
        have hbS : Below w.heap.size w (((w4.setCell ⟨wr.heap.size, 0, none⟩ (.int .i64 bx)).setCell ⟨wr.heap.size, 1, none⟩ (.int .i64 by_)).setCell ⟨wr.heap.size, 2, none⟩ (.int .i64 bs)) := bl_set3 (by (repeat (first | exact bl_refl | assumption | (apply bl_then; assumption) | refine bl_alloc ?_ _ | refine bl_drew ?_ | refine bl_drewN ?_ _))) hbw.size _ _ _
        have hown4 := hown.below (bl_set3 (bl_a (bl_d hb4)) (Nat.le_refl _) (.int .i64 bx) (.int .i64 by_) (.int .i64 bs))
        have hBs := ((hBb.set_ 0 (.int .i64 bx)).set_ 1 (.int .i64 by_)).set_ 2 (.int .i64 bs)
        have fBs := hBs.facts
        go_wp2_with (at_builtin; refine wpList_appB1 hown4 rfl _ _ rfl rfl rfl (by simp) (by omega) hbS.size ?_; intro v6 w6 hown6 hgr6)
        have hbw6 := own_step hown4 hgr6 (by (repeat (first | exact bl_refl | assumption | (apply bl_then; assumption) | refine bl_alloc ?_ _ | refine bl_drew ?_ | refine bl_drewN ?_ _)))
        go_roundw
        case rel => exact ⟨k + 1, acc ++ [(bx, by_, bs)], by omega, by go_num, by simp [HAL.out], HB.out.1, HB.out.2, hown6, hbw6⟩
        case measure => simp [intOf]; omega
    · have hkm : k = m := by omega
      have hE := Lib.hid (passP_end (l := l) (k := k) (by omega))
      go_wp2
      go_ret
      exact ⟨_, rfl, by have := H.out; rw [hE.out, List.append_nil] at this; rw [← this]; exact hown, hbw⟩
end Go.Proofs.YtpompeancmonbaaGreat

/- Bars sorted in a fresh row, of the program, walked. Conditions: at most 100000 bars. -/
namespace Go.Proofs.YtpompeancmonbaaGreat
open Go.RowKit
set_option maxHeartbeats 4000000
set_option maxRecDepth 100000

section
variable {α : Type} {enc : α → List Value} {sz bytes : Nat} {P : Program} {t e : TypeId} {w : World}
theorem run_cp (E : Elem P t e sz bytes) (henc : ∀ x, (enc x).length = sz) (hone : ∀ x, ∀ u ∈ enc x, u.oneCell' = true) (base : Nat) (ty : TypeId) (v u : Value) (n : Nat) (r : List α) (hown : ∃ xs, w.ownsRow base e sz v n xs) (hu : Sl enc sz w u r) (hn : r.length = n) :
    ∃ w', (Builtin.copy_ #[t, t] ty #[v, u]).run P w = .ok (goInt n) w' ∧ Own enc sz base e w' v r ∧ w.grownBy w' v.ownBlock := by
  obtain ⟨hund, hrow, hpos⟩ := E
  obtain ⟨i, hi, hrow⟩ : ∃ i, P.info? e = some i ∧ (i.zero.map (fun z => z.cells.size), i.size, i.bytes) = (some sz, sz, bytes) := by
    cases h : P.info? e with
    | none => rw [h] at hrow; cases hrow
    | some i => rw [h] at hrow; exact ⟨i, rfl, Option.some.inj hrow⟩
  have h2 := congrArg (fun x => x.2.1) hrow
  simp only at h2
  obtain ⟨A, c, rfl, hlc, hcm, hr⟩ := hu
  obtain ⟨xs, hxl, hv⟩ := hown
  have hfl : (r.flatMap enc).length = r.length * sz := flat_len henc r
  cases A with
  | none =>
    have hr0 : r = [] := by
      cases r with
      | nil => rfl
      | cons x r =>
        obtain ⟨b, off, he, _⟩ := hr 0 x rfl
        cases he
    subst hr0
    obtain rfl : n = 0 := hn.symm
    refine ⟨w, ?_, ⟨by simp, ?_⟩, World.grownBy.refl _ _⟩
    · rcases hv with ⟨rfl, _⟩ | ⟨g, cap, cur, rfl, _, hh, _⟩
      · simp [Builtin.copy_, run_underlying hund, sizeOf, typeInfo, hi, Builtin.lenOf, Builtin.firstCells]
      · simp [Builtin.copy_, run_underlying hund, sizeOf, typeInfo, hi, Builtin.lenOf, Builtin.firstCells, storeCells]
    · rcases hv with h | ⟨g, cap, cur, rfl, hg, hh, hnc, hcm', hcs, htk⟩
      · exact .inl h
      · exact .inr ⟨g, cap, cur, rfl, hg, hh, hnc, hcm', hcs, by simp⟩
  | some ad =>
    have hsrc : ∀ j u, (r.flatMap enc)[j]? = some u → w.cell? (ad.add j) = some u := by
      intro j u hj
      have hjl : j < r.length * sz := by rw [← hfl]; exact (List.getElem?_eq_some_iff.1 hj).1
      have hk : j / sz < r.length := Nat.div_lt_of_lt_mul (by rw [Nat.mul_comm]; exact hjl)
      obtain ⟨b, off, he, hbl, hc⟩ := hr (j / sz) r[j / sz] (List.getElem?_eq_getElem hk)
      have hm : j % sz < (enc r[j / sz]).length := by rw [henc]; exact Nat.mod_lt _ hpos
      have hj' := flat_get henc r (j / sz) r[j / sz] (j % sz) _ (List.getElem?_eq_getElem hk) (List.getElem?_eq_getElem hm)
      have hdm : j / sz * sz + j % sz = j := by rw [Nat.mul_comm]; exact Nat.div_add_mod j sz
      rw [hdm, hj] at hj'
      have hcj := hc (j % sz) u (by rw [List.getElem?_eq_getElem hm]; exact hj'.symm)
      obtain rfl : ad = ⟨b, off, none⟩ := Option.some.inj he
      rw [Nat.add_assoc, hdm] at hcj
      unfold Addr.add
      split
      · rename_i h0
        subst h0
        exact hcj
      · exact hcj
    have hl := run_loadCells_list (P := P) w ad (r.flatMap enc) hsrc
    rw [hfl, hn] at hl
    have h1 : ∀ u ∈ r.flatMap enc, u.oneCell' = true := by
      intro u hu
      obtain ⟨x, hx, hux⟩ := List.mem_flatMap.1 hu
      exact hone x u hux
    rcases hv with ⟨rfl, rfl⟩ | ⟨g, cap, cur, rfl, hg, hh, hnc, hcm', hcs, htk⟩
    · have hr0 : r = [] := List.eq_nil_of_length_eq_zero hn
      subst hr0
      refine ⟨w, ?_, ⟨by simp, .inl ⟨rfl, rfl⟩⟩, World.grownBy.refl _ _⟩
      have hl0 : (loadCells ad 0).run P w = .ok #[] w := by simpa using hl
      simp [Builtin.copy_, run_underlying hund, sizeOf, typeInfo, hi, Builtin.lenOf, Builtin.firstCells, hl0]
    · have hfit : 0 + 0 + (r.flatMap enc).length ≤ cur.size := by rw [hfl, hcs, hn]; simpa using Nat.mul_le_mul_right sz hnc
      have hst := run_storeCells_at P g 0 e (r.flatMap enc) 0 cur w hh hfit h1
      refine ⟨w.setRow g (cur.toList.take (0 + 0) ++ r.flatMap enc ++ cur.toList.drop (0 + 0 + (r.flatMap enc).length)).toArray, ?_, ⟨hfl, .inr ⟨g, cap, _, by rw [hn], hg, setRow_heap w g cur _ e _ hh, by omega, hcm', ?_, ?_⟩⟩, ?_⟩
      · simp [Builtin.copy_, run_underlying hund, sizeOf, typeInfo, hi, h2, Builtin.lenOf, Builtin.firstCells, hn, hl, hst]
      · simp only [List.size_toArray, List.length_append, List.length_take, List.length_drop, Array.length_toList]; omega
      · simp [← hfl]
      · refine ⟨rfl, rfl, rfl, by simp [World.setRow], fun k hk hne => setRow_other w g k _ (fun e => hne (by simp [Value.ownBlock, e]))⟩
end

theorem sorted_any {v : Value} (l : List Bar) (w : World) (h : SlB w v l) (hlen : l.length ≤ 100000) : Calls Tryz.prog 64 #[v] w (RB w (srtB l)) := by
  have h0 := h
  obtain ⟨A, c, rfl, hlc, hcm, h⟩ := h
  have hl : l.length ≤ maxLen := Nat.le_trans hlc hcm
  obtain ⟨i, hi⟩ : ∃ i, Tryz.prog.info? 46 = some i := ⟨_, rfl⟩
  obtain ⟨z, hz⟩ : ∃ z, i.zero = some z := by
    have : (Tryz.prog.info? 46).bind (·.zero) = some (.agg #[.int .i64 0, .int .i64 0, .int .i64 0]) := by kernel_rfl
    rw [hi] at this
    exact ⟨_, this⟩
  have hsb : i.size = 3 ∧ i.bytes = 24 := by
    have h1 : (Tryz.prog.info? 46).map (fun i => (i.size, i.bytes)) = some (3, 24) := by kernel_rfl
    rw [hi] at h1
    simpa using h1
  go_enter Tryz.func64, Tryz.ntmps64
  go_wp2_with (at_make; refine wpList_make_full _ rfl _ _ 22 rfl w.heap.size 46 i z 3 bar_elem.und hi hz hsb.1 _ _ _ _ l.length rfl rfl rfl rfl (by rw [hsb.2]; omega) hl (Nat.le_refl _) ?_; intro w1 hrow hgr1)
  have hb1 : Below w.heap.size w w1 := bl_grown hgr1 bl_refl (by simp)
  have hu1 := h0.below hb1
  obtain ⟨w2, hrun, hown2, hgr2⟩ := run_cp (P := Tryz.prog) bar_elem bc_len bc_one w.heap.size 3 _ _ l.length l ⟨_, hrow⟩ hu1 rfl
  go_wp2_with fail
  rw [hrun]
  have hb2 := own_step hown2 hgr2 hb1
  go_wp2_with (go_at_call 84; refine (sortB_any l _ hown2 (by omega)).mono ?_; rintro e w3 ⟨rfl, hown3, hgr3⟩)
  have hb3 := own_step hown3 hgr3 hb2
  go_ret
  exact ⟨_, rfl, hown3, hb3⟩
end Go.Proofs.YtpompeancmonbaaGreat

/- The net restored, of the program, walked. Conditions: slices that read as lists. -/
namespace Go.Proofs.YtpompeancmonbaaGreat
open Go.RowKit Go.ChangeMaps
set_option maxHeartbeats 4000000
set_option maxRecDepth 100000

theorem passP_length : ∀ l : List Knot, (passP l).length = l.length - 1
  | [] => rfl
  | [_] => rfl
  | a :: b :: r => by
    have := passP_length (b :: r)
    show (btwB a b :: passP (b :: r)).length = _
    rw [List.length_cons, this]
    simp
theorem restore_any {v u x : Value} (N D : List Bar) (l : List Knot) (w : World) (hN : SlB w v N) (hD : SlB w u D) (hl : SlK w x l) : Calls Tryz.prog 31 #[.agg #[v, u], x] w (RBE w (restL N D l) (provedE N D l)) := by
  have hB := Blk.new w 27 #[v, u]
  have hN0 := hN.alloc (.cells #[v, u] 27)
  have hD0 := hD.alloc (.cells #[v, u] 27)
  have hL0 := hl.alloc (.cells #[v, u] 27)
  by_cases hE0 : provedE N D l = 0
  · have hE' : (provedE N D l != 0) = false := by rw [hE0]; rfl
    obtain ⟨hok, hcw⟩ := proved_zero hE0
    have hl' := cwE_len hcw
    have hpl := passP_length l
    have hwl : (wout N D).length ≤ N.length := List.length_filter_le _ _
    have hn1 := hok.net.len
    obtain ⟨hadj, hnear⟩ := cwE_ok hcw
    have HS : Hid (restL N D l = srtB (wout N D ++ passP l) ∧ provedE N D l = 0) := by unfold Hid restL; rw [if_pos hE0]; exact ⟨rfl, hE0⟩
    have HP := Lib.hid hpl
    have HW := Lib.hid hwl
    have hlp : (passP l).length ≤ 5000 := by omega
    have hlw : (wout N D).length ≤ 5000 := by omega
    have hlN : N.length ≤ 100000 := by omega
    clear hE0 hcw hpl hwl hn1
    go_enter Tryz.func31, Tryz.ntmps31
    go_wp2_with (first | (go_at_call 77; refine (proved_any N D l _ hN0 hD0 hL0).mono ?_; rintro e w1 ⟨rfl, hb1⟩; replace hB := hB.st0 hb1; have kB := hB.facts; replace hN0 := hN0.st0 hb1; replace hD0 := hD0.st0 hb1; replace hL0 := hL0.st0 hb1) |
      (go_at_call 50; refine (without_any N D _ hN0 hD0 hlN).mono ?_; rintro e w2 ⟨v2, rfl, hown2, hb2⟩; replace hL0 := hL0.st0 hb2) |
      (go_at_call 65; refine (passed_any l _ hL0 hadj hnear (by omega)).mono ?_; rintro e w3 ⟨v3, rfl, hown3, hb3⟩; have hown23 := hown2.below hb3) |
      (at_builtin; refine wpList_appBS hown23 (hown3.rd bc_len) rfl _ _ rfl rfl rfl (by omega) (by have := hb2.size; have := hb3.size; omega) ?_; intro v4 w4 hown4 hgr4))
    have hb4 : Below w.heap.size w w4 := bl_grown hgr4 (by (repeat (first | exact bl_refl | assumption | (apply bl_then; assumption) | refine bl_alloc ?_ _ | refine bl_drew ?_ | refine bl_drewN ?_ _))) fun k hk => Nat.le_trans (by have := hb1.size; simp at this; omega) (hown23.lt k hk).1
    go_wp2_with (go_at_call 64; refine (sorted_any _ _ (hown4.rd bc_len) (by rw [List.length_append]; omega)).mono ?_; rintro e w5 ⟨v5, rfl, hown5, hb5⟩)
    go_ret2
    exact ⟨v5, by rw [HS.out.2]; rfl, by rw [HS.out.1]; exact hown5.base_mono hb4.size, by (repeat (first | exact bl_refl | assumption | (apply bl_then; assumption) | refine bl_alloc ?_ _ | refine bl_drew ?_ | refine bl_drewN ?_ _))⟩
  · have hE' : (provedE N D l != 0) = true := by simpa using hE0
    have HS : Hid (restL N D l = []) := by unfold Hid restL; rw [if_neg hE0]
    clear hE0
    go_enter Tryz.func31, Tryz.ntmps31
    go_wp2_with (go_at_call 77; refine (proved_any N D l _ hN0 hD0 hL0).mono ?_; rintro e w1 ⟨rfl, hb1⟩)
    go_ret2
    exact ⟨.slice none 0 0, rfl, by rw [HS.out]; exact Own.nil_, by (repeat (first | exact bl_refl | assumption | (apply bl_then; assumption) | refine bl_alloc ?_ _ | refine bl_drew ?_ | refine bl_drewN ?_ _))⟩
end Go.Proofs.YtpompeancmonbaaGreat

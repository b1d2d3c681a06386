/- What the sorts' comparing functions leave of the world: draws and new blocks. Conditions: none. -/
import Derived.Test.YtpompeancmonbaaGreatE08
import Derived.Test.YtpompeancmonbaaGreatE17
import Derived.Test.YtpompeancmonbaaGreatE23
import Derived.Test.YtpompeancmonbaaGreatE22
import Derived.Test.YtpompeancmonbaaGreatE24
import Derived.Test.YtpompeancmonbaaGreatE26
import Derived.Test.YtpompeancmonbaaGreatE14
import Derived.Shelf.SlSortCmp.NoneTotal
import Derived.Test.YtpompeancmonbaaGreatE10
import Derived.Maps.RangeRun
import Derived.Test.YtpompeancmonbaaGreatE05
import Derived.WideKeyEntry
import Derived.Test.YtpompeancmonbaaGreatE02
import Derived.Test.YtpompeancmonbaaGreatE19
namespace Go.Proofs.YtpompeancmonbaaGreat
open Go.RowKit Go.Sort
set_option maxHeartbeats 2000000
set_option maxRecDepth 100000

theorem kcmp_exN (x y x' y' : Int) (w : World) : Calls Tryz.prog 108 #[.agg #[.int .i64 x, .int .i64 y], .agg #[.int .i64 x', .int .i64 y']] w (GV w (.int .i64 (knotCmp x y x' y'))) := by
  go_enter Tryz.func108, Tryz.ntmps108
  go_wp2
  refine wp_region_ords [0, 1, 2, 3, 5, 6, 7, 8] [(4, false)] [9, 10, 11, 12] (by kernel_rfl) (by kernel_rfl) (fun d _ _ _ _ h => by cases d <;> exact h) ?_
  simp only [List.map_cons, List.map_nil, List.getD_cons_zero, List.getD_cons_succ]
  repeat (go_big_quiet_step (fail))
  refine wpQuiet_nil ?_
  refine wpMid_run rfl (fun K hK => ?_)
  go_simp
  refine (cmp_ex _ _ _).mono ?_
  rintro e w1 ⟨rfl, rfl⟩
  refine hK _ _ (by (repeat (first | exact bl_refl | assumption | (apply bl_then; assumption) | refine bl_alloc ?_ _ | refine bl_drew ?_ | refine bl_drewN ?_ _))) ?_
  clear hK K
  refine wpMid_nil ?_
  go_wp2_with (first | (go_at_call 110; refine (cmp_ex _ _ _).mono ?_; rintro e w1 ⟨rfl, rfl⟩) | (go_at_call 109; go_must (refine (or_ex [cmpI y y', cmpI x x'] _ _ _ (by simp [maxLen]) (Rd.ints2 (by simp) (by go_simp) (by go_simp))).mono ?_); rintro e w1 ⟨rfl, rfl⟩))
  go_ret
  exact ⟨rfl, ((((Grw.refl w).alloc _).alloc _).drew).alloc _⟩
theorem bcmp_exN (x y s x' y' s' : Int) (w : World) : Calls Tryz.prog 82 #[.agg #[.int .i64 x, .int .i64 y, .int .i64 s], .agg #[.int .i64 x', .int .i64 y', .int .i64 s']] w (GV w (.int .i64 (barCmpM x y s x' y' s'))) := by
  go_enter Tryz.func82, Tryz.ntmps82
  go_wp2
  refine wp_region_ords [0, 1, 2, 3, 5, 6, 7, 8, 10, 11, 12, 13] [(4, false), (9, false)] [14, 15, 16, 17] (by kernel_rfl) (by kernel_rfl) (fun d _ _ _ _ h => by cases d <;> exact h) ?_
  simp only [List.map_cons, List.map_nil, List.getD_cons_zero, List.getD_cons_succ]
  repeat (go_big_quiet_step (fail))
  refine wpQuiet_nil ?_
  refine wpMid_run rfl (fun K hK => ?_)
  go_simp
  refine (cmp_ex _ _ _).mono ?_
  rintro e w1 ⟨rfl, rfl⟩
  refine hK _ _ (by (repeat (first | exact bl_refl | assumption | (apply bl_then; assumption) | refine bl_alloc ?_ _ | refine bl_drew ?_ | refine bl_drewN ?_ _))) ?_
  clear hK K
  refine wpMid_run rfl (fun K hK => ?_)
  go_simp
  refine (cmp_ex _ _ _).mono ?_
  rintro e w1 ⟨rfl, rfl⟩
  refine hK _ _ (by (repeat (first | exact bl_refl | assumption | (apply bl_then; assumption) | refine bl_alloc ?_ _ | refine bl_drew ?_ | refine bl_drewN ?_ _))) ?_
  clear hK K
  refine wpMid_nil ?_
  go_wp2_with (first | (go_at_call 110; refine (cmp_ex _ _ _).mono ?_; rintro e w1 ⟨rfl, rfl⟩) | (go_at_call 109; go_must (refine (or_ex [cmpI y y', cmpI x x', cmpI s s'] _ _ _ (by simp [maxLen]) (Rd.ints3 (by simp) (by go_simp) (by go_simp) (by go_simp))).mono ?_); rintro e w1 ⟨rfl, rfl⟩))
  go_ret
  exact ⟨rfl, ((((Grw.refl w).alloc _).alloc _).drew).alloc _⟩
end Go.Proofs.YtpompeancmonbaaGreat

/- Sorting knots and bars: the library's sort by its contract, at a row of the call's own. Conditions: a row of at most a million elements. -/
namespace Go.Proofs.YtpompeancmonbaaGreat
open Go.RowKit Go.Sort Go.Shelf
set_option maxHeartbeats 2000000
set_option maxRecDepth 100000

/-! ## a row that the sort has turned -/
section
variable {α : Type} [Inhabited α] {enc : α → List Value} {sz : Nat} {e : TypeId} {w : World}
end

/-! ## the two orders -/
theorem kcmpLaysN (blk off size : Nat) (w : World) : CmpLays Tryz.prog 108 #[] kc 2 cfK blk off size w := fun m os dk _ x y =>
  (kcmp_exN x.1 x.2 y.1 y.2 (sortWorldK kc 2 w blk off m dk os)).mono fun _ _ ⟨he, q, os', hw⟩ => ⟨he, q, os', hw⟩
theorem bcmpLaysN (blk off size : Nat) (w : World) : CmpLays Tryz.prog 82 #[] bc 3 cfB blk off size w := fun m os dk _ x y =>
  (bcmp_exN x.1 x.2.1 x.2.2 y.1 y.2.1 y.2.2 (sortWorldK bc 3 w blk off m dk os)).mono fun _ _ ⟨he, q, os', hw⟩ => ⟨he, q, os', hw⟩

theorem sortK_anyN {v : Value} {base : Nat} (l : List Knot) (w : World) (h : OwK base w v l) (hlen : l.length ≤ 1000000) :
    Calls Tryz.prog 100 #[v, .func (.func 108) #[] #[]] w fun e w' => e = .returned (.tuple #[]) ∧ OwK base w' v (srtK l) ∧ w.grownBy w' v.ownBlock := by
  rcases h.2 with ⟨rfl, hn⟩ | ⟨g, cap, cur, rfl, _⟩
  · obtain rfl : l = [] := List.eq_nil_of_length_eq_zero hn
    exact (AnyF.slices_SortFunc_none lay_sortK none 0 _ w).mono fun e w' ⟨he, hw⟩ => ⟨he, by subst hw; simpa [srtK] using h, by subst hw; exact World.grownBy.refl _ _⟩
  · obtain ⟨hH, hg⟩ := own_holds kc_len h
    have hcon := AnyQ.slices_SortFunc_total lay_sortK 2 Tryz.isAgg32 Tryz.sizeOf32 kc kc_len (fun x u hu => kc_one x u hu) cfK swoK 108 #[] g 0 cap l.toArray w
      (enters_of Tryz.func108 (by kernel_rfl) rfl) (kcmpLaysN g 0 _ w) hH hg (by simp; omega) (total_of ltK_iff fun _ _ => kltP_tri)
    refine Calls.mono (R := fun e w' => e = .returned (.tuple #[]) ∧ ∃ n os, w' = sortWorldK kc 2 w g 0 n (srtK l).toArray os) ?_ ?_
    · exact hcon
    · rintro e w' ⟨he, n, os, rfl⟩
      obtain ⟨h1, h2⟩ := own_sorted kc_len h (srtK_length l) n os
      exact ⟨he, h1, h2⟩
theorem sortB_anyN {v : Value} {base : Nat} (l : List Bar) (w : World) (h : OwB base w v l) (hlen : l.length ≤ 1000000) :
    Calls Tryz.prog 84 #[v, .func (.func 82) #[] #[]] w fun e w' => e = .returned (.tuple #[]) ∧ OwB base w' v (srtB l) ∧ w.grownBy w' v.ownBlock := by
  rcases h.2 with ⟨rfl, hn⟩ | ⟨g, cap, cur, rfl, _⟩
  · obtain rfl : l = [] := List.eq_nil_of_length_eq_zero hn
    exact (AnyF.slices_SortFunc_none lay_sortB none 0 _ w).mono fun e w' ⟨he, hw⟩ => ⟨he, by subst hw; simpa [srtB] using h, by subst hw; exact World.grownBy.refl _ _⟩
  · obtain ⟨hH, hg⟩ := own_holds bc_len h
    have hcon := AnyQ.slices_SortFunc_total lay_sortB 3 Tryz.isAgg46 Tryz.sizeOf46 bc bc_len (fun x u hu => bc_one x u hu) cfB swoB 82 #[] g 0 cap l.toArray w
      (enters_of Tryz.func82 (by kernel_rfl) rfl) (bcmpLaysN g 0 _ w) hH hg (by simp; omega) (total_of ltB_iff fun _ _ => bltP_tri)
    refine Calls.mono (R := fun e w' => e = .returned (.tuple #[]) ∧ ∃ n os, w' = sortWorldK bc 3 w g 0 n (srtB l).toArray os) ?_ ?_
    · exact hcon
    · rintro e w' ⟨he, n, os, rfl⟩
      obtain ⟨h1, h2⟩ := own_sorted bc_len h (srtB_length l) n os
      exact ⟨he, h1, h2⟩
end Go.Proofs.YtpompeancmonbaaGreat

/- Lists told apart, a net copied, short lists, the first error: the reference's small functions, walked. Conditions: the slices read as lists. -/
namespace Go.Proofs.YtpompeancmonbaaGreat
open Go.RowKit
set_option maxHeartbeats 2000000
set_option maxRecDepth 100000

theorem sameBars_anyN {v u : Value} (l r : List Bar) (w : World) (h : SlB w v l) (h' : SlB w u r) : Calls Tryz.prog 18 #[v, u] w (RV w (.bool (decide (l = r)))) := by
  obtain ⟨A, c, rfl, hlc, hcm, h⟩ := h
  obtain ⟨A', c', rfl, hlc', hcm', h'⟩ := h'
  have hl : l.length ≤ maxLen := Nat.le_trans hlc hcm
  have hl' : r.length ≤ maxLen := Nat.le_trans hlc' hcm'
  unfold maxLen at hl hl'
  by_cases hlen : l.length = r.length
  · have he : (l.length != r.length) = false := by simp [hlen]
    have he2 : ((l.length : Int) != (r.length : Int)) = false := by simp [hlen]
    go_enter Tryz.func18, Tryz.ntmps18
    go_wp2
    go_loopw [5] (fun i wr => ∃ k : Nat, k ≤ l.length ∧ i = .int .i64 k ∧ Hid (decide (l = r) = decide (l.drop k = r.drop k)) ∧ Below w.heap.size w wr) (fun i _ => l.length - (intOf i).toNat)
    case atStart => exact ⟨0, Nat.zero_le _, rfl, by simp [Hid], by (repeat (first | exact bl_refl | assumption | (apply bl_then; assumption) | refine bl_alloc ?_ _ | refine bl_drew ?_ | refine bl_drewN ?_ _))⟩
    case round =>
      obtain ⟨k, hk, rfl, H, hbw⟩ := hrel
      by_cases hlt : k < l.length
      · have hr := h.below hbw
        have hr' := h'.below hbw
        obtain ⟨b, off, rfl, hb, e0, e1, e2⟩ := hr.bar hlt
        obtain ⟨b', off', rfl, hb', e0', e1', e2'⟩ := hr'.bar (hlen ▸ hlt)
        have HD := Lib.hid (same_drop hlen hlt)
        have hlt' : k < r.length := hlen ▸ hlt
        obtain ⟨g, hg⟩ : ∃ g, beqB l[k].1 l[k].2.1 l[k].2.2 r[k].1 r[k].2.1 r[k].2.2 = g := ⟨_, rfl⟩
        have hg' : decide (l[k] = r[k]) = g := hg
        cases g
        · go_wp2
          refine wp_region_ords [0, 1, 2, 3, 4, 5, 6, 7, 8] [] [] (by kernel_rfl) (by kernel_rfl) (fun d _ _ _ _ h => by cases d <;> exact h) ?_
          simp only [List.map_cons, List.map_nil, List.getD_cons_zero, List.getD_cons_succ]
          repeat (go_big_quiet_step (fail))
          refine wpQuiet_nil ?_
          refine wpMid_nil ?_
          go_wp2
          go_ret
          exact ⟨ret_bool (by rw [H.out, HD.out, hg']; rfl), by (repeat (first | exact bl_refl | assumption | (apply bl_then; assumption) | refine bl_alloc ?_ _ | refine bl_drew ?_ | refine bl_drewN ?_ _))⟩
        · go_wp2
          refine wp_region_ords [0, 1, 2, 3, 4, 5, 6, 7, 8] [] [] (by kernel_rfl) (by kernel_rfl) (fun d _ _ _ _ h => by cases d <;> exact h) ?_
          simp only [List.map_cons, List.map_nil, List.getD_cons_zero, List.getD_cons_succ]
          repeat (go_big_quiet_step (fail))
          refine wpQuiet_nil ?_
          refine wpMid_nil ?_
          go_wp2
          go_roundw
          case rel => exact ⟨k + 1, by omega, by go_num, by rw [H.out, HD.out, hg']; rfl, by (repeat (first | exact bl_refl | assumption | (apply bl_then; assumption) | refine bl_alloc ?_ _ | refine bl_drew ?_ | refine bl_drewN ?_ _))⟩
          case measure => simp [intOf]; omega
      · have hkl : k = l.length := by omega
        go_wp2
        go_ret
        refine ⟨ret_bool ?_, by (repeat (first | exact bl_refl | assumption | (apply bl_then; assumption) | refine bl_alloc ?_ _ | refine bl_drew ?_ | refine bl_drewN ?_ _))⟩
        rw [H.out, hkl, List.drop_length, hlen, List.drop_length]; rfl
  · have he2 : ((l.length : Int) != (r.length : Int)) = true := by simp; omega
    have hd : Hid (decide (l = r) = false) := by simp [Hid]; rintro rfl; exact hlen rfl
    go_enter Tryz.func18, Tryz.ntmps18
    go_wp2
    go_ret
    exact ⟨ret_bool hd.out.symm, by (repeat (first | exact bl_refl | assumption | (apply bl_then; assumption) | refine bl_alloc ?_ _ | refine bl_drew ?_ | refine bl_drewN ?_ _))⟩
theorem sameKnots_anyN {v u : Value} (l r : List Knot) (w : World) (h : SlK w v l) (h' : SlK w u r) : Calls Tryz.prog 33 #[v, u] w (RV w (.bool (decide (l = r)))) := by
  obtain ⟨A, c, rfl, hlc, hcm, h⟩ := h
  obtain ⟨A', c', rfl, hlc', hcm', h'⟩ := h'
  have hl : l.length ≤ maxLen := Nat.le_trans hlc hcm
  have hl' : r.length ≤ maxLen := Nat.le_trans hlc' hcm'
  unfold maxLen at hl hl'
  by_cases hlen : l.length = r.length
  · have he2 : ((l.length : Int) != (r.length : Int)) = false := by simp [hlen]
    go_enter Tryz.func33, Tryz.ntmps33
    go_wp2
    go_loopw [5] (fun i wr => ∃ k : Nat, k ≤ l.length ∧ i = .int .i64 k ∧ Hid (decide (l = r) = decide (l.drop k = r.drop k)) ∧ Below w.heap.size w wr) (fun i _ => l.length - (intOf i).toNat)
    case atStart => exact ⟨0, Nat.zero_le _, rfl, by simp [Hid], by (repeat (first | exact bl_refl | assumption | (apply bl_then; assumption) | refine bl_alloc ?_ _ | refine bl_drew ?_ | refine bl_drewN ?_ _))⟩
    case round =>
      obtain ⟨k, hk, rfl, H, hbw⟩ := hrel
      by_cases hlt : k < l.length
      · have hr := h.below hbw
        have hr' := h'.below hbw
        obtain ⟨b, off, rfl, hb, e0, e1⟩ := hr.knot hlt
        obtain ⟨b', off', rfl, hb', e0', e1'⟩ := hr'.knot (hlen ▸ hlt)
        have HD := Lib.hid (same_drop hlen hlt)
        have hlt' : k < r.length := hlen ▸ hlt
        obtain ⟨g, hg⟩ : ∃ g, beqK l[k].1 l[k].2 r[k].1 r[k].2 = g := ⟨_, rfl⟩
        have hg' : decide (l[k] = r[k]) = g := hg
        cases g
        · go_wp2
          refine wp_region_ords [0, 1, 2, 3, 4, 5, 6, 7, 8] [] [] (by kernel_rfl) (by kernel_rfl) (fun d _ _ _ _ h => by cases d <;> exact h) ?_
          simp only [List.map_cons, List.map_nil, List.getD_cons_zero, List.getD_cons_succ]
          repeat (go_big_quiet_step (fail))
          refine wpQuiet_nil ?_
          refine wpMid_nil ?_
          go_wp2
          go_ret
          exact ⟨ret_bool (by rw [H.out, HD.out, hg']; rfl), by (repeat (first | exact bl_refl | assumption | (apply bl_then; assumption) | refine bl_alloc ?_ _ | refine bl_drew ?_ | refine bl_drewN ?_ _))⟩
        · go_wp2
          refine wp_region_ords [0, 1, 2, 3, 4, 5, 6, 7, 8] [] [] (by kernel_rfl) (by kernel_rfl) (fun d _ _ _ _ h => by cases d <;> exact h) ?_
          simp only [List.map_cons, List.map_nil, List.getD_cons_zero, List.getD_cons_succ]
          repeat (go_big_quiet_step (fail))
          refine wpQuiet_nil ?_
          refine wpMid_nil ?_
          go_wp2
          go_roundw
          case rel => exact ⟨k + 1, by omega, by go_num, by rw [H.out, HD.out, hg']; rfl, by (repeat (first | exact bl_refl | assumption | (apply bl_then; assumption) | refine bl_alloc ?_ _ | refine bl_drew ?_ | refine bl_drewN ?_ _))⟩
          case measure => simp [intOf]; omega
      · have hkl : k = l.length := by omega
        go_wp2
        go_ret
        refine ⟨ret_bool ?_, by (repeat (first | exact bl_refl | assumption | (apply bl_then; assumption) | refine bl_alloc ?_ _ | refine bl_drew ?_ | refine bl_drewN ?_ _))⟩
        rw [H.out, hkl, List.drop_length, hlen, List.drop_length]; rfl
  · have he2 : ((l.length : Int) != (r.length : Int)) = true := by simp; omega
    have hd : Hid (decide (l = r) = false) := by simp [Hid]; rintro rfl; exact hlen rfl
    go_enter Tryz.func33, Tryz.ntmps33
    go_wp2
    go_ret
    exact ⟨ret_bool hd.out.symm, by (repeat (first | exact bl_refl | assumption | (apply bl_then; assumption) | refine bl_alloc ?_ _ | refine bl_drew ?_ | refine bl_drewN ?_ _))⟩

abbrev SlI := Sl ic 1
/-- a list has at most n bars, or too many -/
def shortB (l : List Bar) (n : Int) : Bool := decide ((l.length : Int) ≤ n ∨ 4096 < l.length ∧ l.length ≤ 4098)
end Go.Proofs.YtpompeancmonbaaGreat

/- A range over a map, its entries told as a list. Conditions: none. -/
namespace Go.Proofs.YtpompeancmonbaaGreat
open Go.RowKit Go.ChangeMaps
set_option maxHeartbeats 2000000
set_option maxRecDepth 100000

/-! ## a range over a map -/
section
variable {κ ν : Type} {w w' : World} {r rk : Nat} {m : List (κ × ν × Nat)} {done : List κ} {c : Nat} {ek : κ → Value} {ev : ν → Value} {P : Program}
end

end Go.Proofs.YtpompeancmonbaaGreat

/- 'm[k]++' on a map of value keys, told over its list of entries. Conditions: the map's keys and stamps are distinct. -/
namespace Go.Proofs.YtpompeancmonbaaGreat
open Go.RowKit Go.ChangeMaps
set_option maxHeartbeats 400000

section
variable {κ ν : Type} [DecidableEq κ]
variable {ek : κ → Value} {ev : ν → Value} {w w' : World} {r : Nat} {m : List (κ × ν × Nat)} {c : Nat} {P : Program} {k e t : TypeId}

/-- the stamp of a key's entry -/
def mstamp (a : κ) (m : List (κ × ν × Nat)) (c : Nat) : Nat := match m.findIdx? (fun x => decide (a = x.1)) with
  | some j => ((m[j]?).map fun x => x.2.2).getD c
  | none => c
theorem MapAt.entry (h : MapAt ek ev w r m c) (K : KeyLaw P k ek) (ht : P.underlying t = some (.map k e)) {z : ν} (hz : (zeroValue e).run P w = .ok (ev z) w) (a : κ) :
    (Instr.mapEntry t (.map (some r)) (ek a)).run P w = .ok (.tuple #[ev ((mget a m).getD z), goInt (mstamp a m c)]) (setBlock w r (.map ((mput a ((mget a m).getD z) c m).map (ment ek ev)).toArray (mclk a m c))) := by
  simp only [Instr.mapEntry, Sem.run_bind, run_underlying ht, Result.andThen_ok, MapKept.run_getObj_map h, K.ok, findKey_run (ev := ev) K a]
  have hi := idx_mem a m
  rw [mput_idx, mget_idx]
  unfold mclk mstamp
  cases hq : m.findIdx? (fun x => decide (a = x.1)) with
  | none =>
    rw [hq] at hi
    have hn : a ∉ mkeys m := by simpa using hi
    simp [MapKept.run_setObj_map _ h, setBlock, hn, ment, hz]
  | some j =>
    rw [hq] at hi
    have hn : a ∈ mkeys m := by simpa using hi
    have hj : j < m.length := by
      have := List.findIdx?_eq_some_iff_findIdx_eq.1 hq
      omega
    have ha : a = (m[j]).1 := by
      obtain ⟨hp, hb⟩ := List.findIdx?_eq_some_iff_getElem.1 hq
      simpa using hb.1
    have hk : (Instr.keyThatStays (ek a) (ek a)).run P w = .ok (ek a) w := by simp [Instr.keyThatStays, K.same]
    have hke : ek (m[j]).1 = ek a := by rw [← ha]
    simp only [List.getElem?_eq_getElem hj, Option.map_some, Sem.run_bind, Sem.run_pure, List.getElem?_toArray, List.getElem?_map, Option.getD_some, ment, hke, hk, Result.andThen_ok, MapKept.run_setObj_map _ h, setBlock, hn, if_true]
    congr 4
    apply Array.ext'
    rw [Array.toList_modify]
    apply List.ext_getElem?
    intro i
    simp only [List.getElem?_modify, List.getElem?_map]
    by_cases hij : j = i
    · subst hij; simp [List.getElem?_eq_getElem hj, ment]
    · simp [hij]
theorem MapAt.estore (h : MapAt ek ev w r m c) (ok : MOk m c) (a : κ) (hn : a ∈ mkeys m) (v : ν) :
    (Instr.entryStore t (.map (some r)) (goInt (mstamp a m c)) (ev v)).run P w = .ok () (setBlock w r (.map ((mput a v c m).map (ment ek ev)).toArray c)) := by
  have hi := idx_mem a m
  rw [mput_idx]
  unfold mstamp
  cases hq : m.findIdx? (fun x => decide (a = x.1)) with
  | none =>
    rw [hq] at hi
    simp [hn] at hi
  | some j =>
    have hj : j < m.length := by
      have := List.findIdx?_eq_some_iff_findIdx_eq.1 hq
      omega
    have ha : a = (m[j]).1 := by
      obtain ⟨hp, hb⟩ := List.findIdx?_eq_some_iff_getElem.1 hq
      simpa using hb.1
    have hst : ((m.map (ment ek ev)).map (·.born)).Nodup := by
      have : (m.map (ment ek ev)).map (·.born) = m.map (·.2.2) := by simp [ment, Function.comp_def]
      rw [this]; exact ok.stamps
    have hidx : ((m.map (ment ek ev)).toArray).findIdx? (fun e => ((e.born : Nat) : Int) == (((m[j]).2.2 : Nat) : Int)) = some j := by
      rw [WideElems.findIdx_arr]
      have := WideElems.findIdx_born (l := m.map (ment ek ev)) (j := j) (e0 := ment ek ev m[j]) hst (by simp [hj])
      simpa [ment] using this
    simp only [Instr.entryStore, Sem.run_bind, MapKept.run_getObj_map h, Result.andThen_ok, List.getElem?_eq_getElem hj, Option.map_some, Option.getD_some]
    simp only [asInt, asIntOf, goInt, Sem.run_bind, Sem.run_pure, Result.andThen_ok, hidx, MapKept.run_setObj_map _ h, setBlock]
    congr 4
    apply Array.ext'
    rw [Array.toList_modify]
    apply List.ext_getElem?
    intro i
    simp only [List.getElem?_modify, List.getElem?_map]
    by_cases hij : j = i
    · subst hij; simp [List.getElem?_eq_getElem hj, ment, ← ha]
    · simp [hij]
theorem mput_mem (a : κ) (v : ν) (c : Nat) (m : List (κ × ν × Nat)) : a ∈ mkeys (mput a v c m) := by
  rw [mkeys_put]
  split
  · assumption
  · simp
theorem mput_put (a : κ) (v v0 : ν) (c c1 : Nat) : ∀ m : List (κ × ν × Nat), mput a v c1 (mput a v0 c m) = mput a v c m
  | [] => by simp [mput]
  | x :: q => by
    by_cases h : a = x.1
    · simp [mput, h]
    · simp [mput, h, mput_put a v v0 c c1 q]
theorem mstamp_put (a : κ) (v : ν) (c c1 : Nat) : ∀ m : List (κ × ν × Nat), mstamp a (mput a v c m) c1 = mstamp a m c
  | [] => by simp [mput, mstamp, List.findIdx?_cons]
  | x :: q => by
    have ih := mstamp_put a v c c1 q
    unfold mput
    by_cases h : a = x.1
    · rw [if_pos h]
      simp [mstamp, List.findIdx?_cons, h]
    · rw [if_neg h]
      have e : ∀ (l : List (κ × ν × Nat)) (d : Nat), mstamp a (x :: l) d = mstamp a l d := fun l d => by
        unfold mstamp
        rw [List.findIdx?_cons]
        simp only [h, decide_false, Bool.false_eq_true, if_false]
        cases l.findIdx? (fun x => decide (a = x.1)) <;> simp
      rw [e, e, ih]
end
end Go.Proofs.YtpompeancmonbaaGreat

/- A region that draws its order and turns one map: what it reads holds while the map is turned. Conditions: the Bool 'ordB' over the region; the reads hold in every world of the class. -/
namespace Go.Proofs.YtpompeancmonbaaGreat
open Go.RowKit Go.ChangeMaps

/-- A world that is as w was below block B, and of which p holds. -/
def BelM (B : Nat) (w : World) (p : World → Prop) : Type := { x : World // Below B w x ∧ p x }
section
variable {B : Nat} {w w' : World} {p : World → Prop}
def BelM.val (g : BelM B w p) : World := g.1
theorem BelM.below (g : BelM B w p) : Below B w g.val := g.2.1
theorem BelM.has (g : BelM B w p) : p g.val := g.2.2
@[go_sem] theorem BelM.cellAt (g : BelM B w p) (b o : Nat) (h : b < B) : g.val.cell? ⟨b, o, none⟩ = w.cell? ⟨b, o, none⟩ := g.2.1.cell (p := ⟨b, o, none⟩) h
@[go_sem] theorem BelM.frozenAt (g : BelM B w p) (b o : Nat) (h : b < B) : g.val.frozen? ⟨b, o, none⟩ = w.frozen? ⟨b, o, none⟩ := g.2.1.frozen (p := ⟨b, o, none⟩) h
theorem BelM.ex (h : Below B w w') (hp : p w') : ∃ g : BelM B w p, w' = g.val := ⟨⟨w', h, hp⟩, rfl⟩
theorem BelM.none_empty (h : Below B w w') (hp : p w') : Nonempty (BelM B w p) := ⟨⟨w', h, hp⟩⟩
theorem bl_setBlock {a : World} {r : Nat} {o : Obj} (h : Below B a w) (hr : B ≤ r) : Below B a (setBlock w r o) :=
  h.trans ⟨rfl, rfl, rfl, by simp [setBlock], fun k hk => by
    show (w.heap.setIfInBounds r o)[k]? = _
    rw [Array.getElem?_setIfInBounds_ne (by omega)]⟩
end

section
variable {P : Program} {ops : Array Oper} {Q : Exit → Act → World → Prop} {C : World → Prop}
theorem wp_region_ordm {id : Nat} {a : Act} {w : World} {l : List Oper} (B : Nat) (p : World → Prop) (pre : List Nat) (mid : List (Nat × Bool)) (post : List Nat) (hm : P.follows .mixedOrders = true) (hB : ordB .any l.toArray pre mid post = true)
    (hQ : ∀ d c a v w, Q (.panic c) (Act.put a d v) w → Q (.panic c) a w) (hp : p w.drew)
    (h : wpQuiet P l.toArray (fun w' => ∃ g : BelM B w p, w' = g.val) (fun a' => wpMid P l.toArray Q (fun w' => ∃ g : BelM B w p, w' = g.val) (post.map fun i => l.getD i default) (mid.map fun i => (l.getD i.1 default, i.2)) a' w.drew) (pre.map fun i => l.getD i default) a) :
    (Code.region id l.toArray true).wp P Q a w := by
  simp only [ordB, Bool.and_eq_true, decide_eq_true_eq] at hB
  obtain ⟨⟨hs, hn⟩, hB'⟩ := hB
  refine wp_region_any hm (wpAny_of_G (C := fun w' => ∃ g : BelM B w p, w' = g.val) (kp := fun j => !post.contains j) _ _ _ _ ?_)
  rw [hn, Nat.add_assoc]
  refine wpAnyG_pre hs hQ (BelM.ex (Below.refl B w).drew hp) pre _ a (Closed.start _) (by simpa [hn, Nat.add_assoc] using hB') ?_
  have e : ∀ (xs : List Nat), (xs.map fun i => l.toArray.getD i default) = xs.map fun i => l.getD i default := fun xs => List.map_congr_left fun i _ => by simp [Array.getD_eq_getD_getElem?, List.getD_eq_getElem?_getD]
  have e2 : (mid.map fun i => (l.toArray.getD i.1 default, i.2)) = mid.map fun i => (l.getD i.1 default, i.2) := List.map_congr_left fun i _ => by simp [Array.getD_eq_getD_getElem?, List.getD_eq_getElem?_getD]
  rw [e, e, e2]
  exact h
unseal wpMid in
/-- an operation that is carried out; behind it the class is shown again -/
theorem wpMid_runm {B : Nat} {p : World → Prop} {w0 : World} {post : List Oper} {o : Oper} {r : List (Oper × Bool)} {a : Act} {w : World} (hw : Region.wanted o (yielded ops a.tmps) = true)
    (h : ∀ K : Act → World → Prop, (∀ a w', Below B w0 w' → p w' → wpMid P ops Q (fun w' => ∃ g : BelM B w0 p, w' = g.val) post r a w' → K a w') → o.wp P a w K Q) :
    wpMid P ops Q (fun w' => ∃ g : BelM B w0 p, w' = g.val) post ((o, false) :: r) a w := by
  have := h (fun a w' => (∃ g : BelM B w0 p, w' = g.val) ∧ wpMid P ops Q (fun w' => ∃ g : BelM B w0 p, w' = g.val) post r a w') (fun a w h1 h2 h3 => ⟨BelM.ex h1 h2, h3⟩)
  simp only [wpMid, Bool.false_eq_true, if_false, hw, if_true]
  exact this
end

section
variable {κ : Type} [DecidableEq κ]
variable {ek : κ → Value} {w : World} {r : Nat} {m : List (κ × Nat × Nat)} {c : Nat} {P : Program} {k e t : TypeId}
/-- how a count lies in a map -/
def cntV (n : Nat) : Value := .int .i64 (n : Int)
/-- 'm[k]++', its operations apart -/
theorem MapAt.incr (h : MapAt ek cntV w r m c) (ok : MOk m c) (K : KeyLaw P k ek) (ht : P.underlying t = some (.map k e)) (hz : ∀ u : World, (zeroValue e).run P u = .ok (.int .i64 0) u) (a : κ) {v0 : Nat} (hv : (mget a m).getD 0 = v0) :
    ∃ (w1 w2 : World) (sm c2 : Nat), (Instr.mapEntry t (.map (some r)) (ek a)).run P w = .ok (.tuple #[.int .i64 (v0 : Int), .int .i64 (sm : Int)]) w1 ∧
      (Instr.lookup t (.map (some r)) (ek a) false).run P w = .ok (.int .i64 (v0 : Int)) w ∧ (Instr.lookup t (.map (some r)) (ek a) false).run P w1 = .ok (.int .i64 (v0 : Int)) w1 ∧
      (Instr.entryStore t (.map (some r)) (.int .i64 (sm : Int)) (.int .i64 ((v0 + 1 : Nat) : Int))).run P w1 = .ok () w2 ∧
      MapAt ek cntV w2 r (mput a (v0 + 1) c m) c2 ∧ MOk (mput a (v0 + 1) c m) c2 ∧ (∀ B, B ≤ r → Below B w w1) ∧ (∀ B, B ≤ r → Below B w w2) := by
  have hlt := h.lt
  have e1 := h.entry K ht (z := 0) (hz w) a
  rw [hv] at e1
  have h1 : MapAt ek cntV (setBlock w r (.map ((mput a v0 c m).map (ment ek cntV)).toArray (mclk a m c))) r (mput a v0 c m) (mclk a m c) := by
    show (w.heap.setIfInBounds r _)[r]? = _
    rw [Array.getElem?_setIfInBounds_self_of_lt hlt]
  have ok1 := ok.put a v0
  have e2 := h.look K ht (hz w) a
  have e3 := h1.look K ht (hz _) a
  have e4 := h1.estore (t := t) ok1 a (mput_mem a v0 c m) (v0 + 1) (P := P)
  rw [mput_put, mstamp_put] at e4
  have h2 : MapAt ek cntV (setBlock (setBlock w r (.map ((mput a v0 c m).map (ment ek cntV)).toArray (mclk a m c))) r (.map ((mput a (v0 + 1) c m).map (ment ek cntV)).toArray (mclk a m c))) r (mput a (v0 + 1) c m) (mclk a m c) := by
    show ((w.heap.setIfInBounds r _).setIfInBounds r _)[r]? = _
    rw [Array.getElem?_setIfInBounds_self_of_lt (by simp; exact hlt)]
  refine ⟨_, _, mstamp a m c, mclk a m c, ?_, ?_, ?_, e4, h2, ok.put a (v0 + 1), fun B hB => bl_setBlock (Below.refl _ _) hB, fun B hB => bl_setBlock (bl_setBlock (Below.refl _ _) hB) hB⟩
  · exact e1
  · rw [e2]
    cases hm : mget a m with
    | none => rw [hm] at hv; obtain rfl : 0 = v0 := hv; rfl
    | some q => rw [hm] at hv; obtain rfl : q = v0 := hv; rfl
  · rw [e3, mget_put, if_pos rfl]; rfl
end
end Go.Proofs.YtpompeancmonbaaGreat

/- Bars put into a list in their order, each once; the reference's lists sorted, walked. Conditions: the slices read as lists. -/
namespace Go.Proofs.YtpompeancmonbaaGreat
open Go.RowKit Go.ChangeMaps
set_option maxHeartbeats 4000000
set_option maxRecDepth 100000

section
variable {α : Type} {enc : α → List Value} {sz bytes : Nat} {P : Program} {t e : TypeId} {w : World}
end
section
variable {α : Type} {enc : α → List Value} {sz n c : Nat} {w : World} {A : Option Addr} {l : List α}
end

section
variable {ops : Array Oper} {rest : List Oper} {o : Oper} {a : Act} {Q : Exit → Act → World → Prop} {base : Nat} {W : World} {v : Value} {X Y S : Int}
end
/-- a bar put into a list in its place, once -/
def insU : List Bar → Bar → List Bar
  | [], k => [k]
  | x :: r, k => if bltP x k then x :: insU r k else if x = k then x :: r else k :: x :: r
theorem bltP_tr (a b c : Bar) (h : bltP a b) (h' : bltP b c) : bltP a c := bltP_trans h h'
theorem insU_mem (k y : Bar) : ∀ l, y ∈ insU l k ↔ y = k ∨ y ∈ l
  | [] => by simp [insU]
  | x :: r => by
    unfold insU
    split
    · rw [List.mem_cons, insU_mem k y r, List.mem_cons]
      constructor
      · rintro (h | h | h) <;> simp [h]
      · rintro (h | h | h) <;> simp [h]
    · split
      · rename_i h
        subst h
        simp
      · simp
theorem insU_sorted (k : Bar) : ∀ {l : List Bar}, l.Pairwise bltP → (insU l k).Pairwise bltP
  | [], _ => by simp [insU]
  | x :: r, h => by
    obtain ⟨h1, h2⟩ := List.pairwise_cons.1 h
    unfold insU
    split
    · rename_i hx
      refine List.pairwise_cons.2 ⟨fun y hy => ?_, insU_sorted k h2⟩
      rcases (insU_mem k y r).1 hy with rfl | hy
      · exact hx
      · exact h1 y hy
    · rename_i hx
      split
      · exact h
      · rename_i hne
        refine List.pairwise_cons.2 ⟨fun y hy => ?_, h⟩
        have := bltP_tri hx hne
        rcases List.mem_cons.1 hy with rfl | hy
        · exact this
        · exact bltP_tr _ _ _ this (h1 y hy)
theorem insU_len (k : Bar) : ∀ l : List Bar, (insU l k).length ≤ l.length + 1
  | [] => by simp [insU]
  | x :: r => by
    unfold insU
    have := insU_len k r
    split
    · simp only [List.length_cons]; omega
    · split <;> simp
theorem insU_drop {l : List Bar} {e : Bar} {k : Nat} (hk : k < l.length) : insU (l.drop k) e = if bltP l[k] e then l[k] :: insU (l.drop (k + 1)) e else if l[k] = e then l.drop k else e :: l.drop k := by
  rw [List.drop_eq_getElem_cons hk, insU]
/-- bars in their order, each once -/
def setIn (o l : List Bar) : List Bar := l.foldl insU o
def setB (l : List Bar) : List Bar := setIn [] l
theorem setIn_mem (k : Bar) : ∀ (l o : List Bar), k ∈ setIn o l ↔ k ∈ o ∨ k ∈ l
  | [], o => by simp [setIn]
  | b :: l, o => by
    show k ∈ setIn (insU o b) l ↔ _
    rw [setIn_mem k l, insU_mem, List.mem_cons]
    constructor
    · rintro ((h | h) | h)
      · exact .inr (.inl h)
      · exact .inl h
      · exact .inr (.inr h)
    · rintro (h | h | h)
      · exact .inl (.inr h)
      · exact .inl (.inl h)
      · exact .inr h
theorem setIn_sorted : ∀ (l o : List Bar), o.Pairwise bltP → (setIn o l).Pairwise bltP
  | [], _, h => h
  | _ :: l, _, h => setIn_sorted l _ (insU_sorted _ h)
theorem setIn_len : ∀ (l o : List Bar), (setIn o l).length ≤ o.length + l.length
  | [], o => by simp [setIn]
  | b :: l, o => by
    have h := setIn_len l (insU o b)
    have h1 := insU_len b o
    show (setIn (insU o b) l).length ≤ _
    simp only [List.length_cons]
    omega
theorem setIn_take {l o : List Bar} {i : Nat} (hi : i < l.length) : setIn o (l.take (i + 1)) = insU (setIn o (l.take i)) l[i] := by
  unfold setIn
  rw [List.take_succ_eq_append_getElem hi, List.foldl_append]; rfl
theorem setB_mem (l : List Bar) (x : Bar) : x ∈ setB l ↔ x ∈ l := by unfold setB; rw [setIn_mem]; simp
theorem setB_sorted (l : List Bar) : (setB l).Pairwise bltP := setIn_sorted l [] List.Pairwise.nil
theorem setB_len (l : List Bar) : (setB l).length ≤ l.length := by have := setIn_len l []; simpa [setB] using this
theorem setB_of_sorted {l : List Bar} (h : l.Pairwise bltP) : setB l = l := sortedB_eq (setB_sorted l) h (setB_mem l)
theorem setB_srt {l : List Bar} (hn : l.Nodup) : setB l = srtB l := sortedB_eq (setB_sorted l) (srtB_sorted hn) fun x => by rw [setB_mem, srtB_mem]

end Go.Proofs.YtpompeancmonbaaGreat

/- The run and whether a torn net is ready, of the reference, walked. Conditions: bars within bounds. -/
import Derived.Test.YthcnngoaijgnoaaGreatK10
import Derived.Test.YthcnngoaijgnoaaGreatRows
import Derived.Test.YthcnngoaijgnoaaGreatK02
import Derived.WalkKit
import Derived.ProofKit
import Derived.OpenShut
import Derived.ShutString
import Derived.ChangeOld
import Derived.Below
import Derived.Lib.SmallJoins
import Derived.Deep.Slices
import Derived.Deep.Strs
namespace Go.Proofs.YthcnngoaijgnoaaGreat
open Go.RowKit Go.ChangeMaps
set_option maxHeartbeats 4000000
set_option maxRecDepth 100000

def runI (D : List Bar) (l : List Knot) : Nat → Option (List Knot)
  | 0 => none
  | n + 1 => match tryRun D (l.getD n (0, 0)) with
    | some w => some w
    | none => runI D l n
theorem runO_runI {D : List Bar} (h : (oddK D).length = 2) : runO D = runI D (oddK D) 2 := by
  match hh : oddK D, h with
  | [p, q], _ =>
    rw [runO_two hh]
    unfold tryAll twoB
    simp only [runI, List.findSome?_cons, List.findSome?_nil, List.getD_eq_getElem?_getD, List.getElem?_cons_succ, List.getElem?_cons_zero, Option.getD_some]
    cases tryRun D q with
    | some w => rfl
    | none => cases tryRun D p <;> rfl
/-- the call returns a fresh row of knots and whether there is one -/
def RO (w : World) (o : Option (List Knot)) (e : Ending) (w' : World) : Prop := ∃ v, e = .returned (.tuple #[v, .bool o.isSome]) ∧ OwK w.heap.size w' v (o.getD []) ∧ Below w.heap.size w w'
theorem rrun_any {v u : Value} (D : List Bar) (w : World) (hD : SlB w u D) (hk : ∀ b ∈ D, BarOk b) (hlen : D.length ≤ 50000) :
    Calls Tryz.prog 28 #[.agg #[v, u]] w (RO w (runO D)) := by
  have hB := Blk.new w 24 #[v, u]
  have hD0 := hD.alloc (.cells #[v, u] 24)
  have HN := Lib.hid (odd_near hk)
  have HKK := Lib.hid hk
  have hoo := fun (v : Value) X (hX : SlB X u D) => rodd_any (v := v) D X hX hk (by omega)
  have HRL := Lib.hid (fun h => runO_len (D := D) h)
  have HRI := Lib.hid (fun h => runO_runI (D := D) h)
  obtain ⟨l, hl⟩ : ∃ l, oddK D = l := ⟨_, rfl⟩
  rw [hl] at hoo HN HRL HRI
  clear hl hk
  by_cases h2 : l.length = 2
  · have hne : ((l.length : Int) != 2) = false := by simp; omega
    have HR := Lib.hid (HRI.out h2)
    go_enter Tryz.func28, Tryz.ntmps28
    go_wp2_with (go_at_call 55; refine (hoo _ _ hD0).mono ?_; rintro e w1 ⟨v1, rfl, hown1, hb1⟩; obtain ⟨A1, c1, rfl⟩ := hown1.shape)
    have hB1 := hB.below hb1
    have hD1 := hD0.below hb1
    have hbw1 : Below w.heap.size w w1 := by (repeat (first | exact bl_refl | assumption | (apply bl_then; assumption) | refine bl_alloc ?_ _ | refine bl_drew ?_ | refine bl_drewN ?_ _))
    go_loopw [5] (fun i wr => ∃ n : Nat, n ≤ 2 ∧ i = .int .i64 ((n : Int) - 1) ∧ Hid (runO D = runI D l n) ∧ Below w1.heap.size w1 wr) (fun i _ => (intOf i + 1).toNat)
    case atStart => exact ⟨2, by omega, rfl, HR, Below.refl _ _⟩
    case round =>
      obtain ⟨n, hn, rfl, H, hbw⟩ := hrel
      have hBr := hB1.below hbw
      have fB := hBr.facts
      have hDr := hD1.below hbw
      have hlr := hown1.below hbw
      cases n with
      | zero =>
        have HE : Hid (runO D = none) := H.out
        go_wp2
        go_ret2
        exact ⟨.slice none 0 0, by rw [HE.out]; rfl, by rw [HE.out]; exact Own.nil_, by (repeat (first | exact bl_refl | assumption | (apply bl_then; assumption) | refine bl_alloc ?_ _ | refine bl_drew ?_ | refine bl_drewN ?_ _))⟩
      | succ m =>
        have hlt : m < l.length := by omega
        obtain ⟨A1', c1', he, hlc, hcm, hr⟩ := hlr.rd kc_len
        obtain ⟨rfl, rfl⟩ : A1 = A1' ∧ c1 = c1' := by simpa using he
        obtain ⟨b, off, rfl, hb, e0, e1⟩ := hr.knot hlt
        obtain ⟨hnk, hok⟩ := HN.out _ (List.getElem_mem hlt)
        have hgd : l.getD m (0, 0) = l[m] := by rw [List.getD_eq_getElem?_getD, List.getElem?_eq_getElem hlt]; rfl
        have HM : Hid (runO D = match tryRun D l[m] with | some w => some w | none => runI D l m) := by unfold Hid; rw [H.out, runI, hgd]
        obtain ⟨⟨x, y⟩, hx⟩ : ∃ z, l[m] = z := ⟨_, rfl⟩
        rw [hx] at e0 e1 hnk hok HM
        unfold nearK at hnk
        simp only at hnk e0 e1
        have hms := fun (v : Value) X (hX : SlB X u D) => missing_any (v := v) D x y X hX (by omega) (by omega)
        have hle := odd_legs hok
        have hmi : ((m + 1 : Nat) : Int) - 1 = (m : Int) := by omega
        rw [hmi]
        obtain ⟨q, hq⟩ : ∃ q, (((missN D (x, y) : Nat) : Int) != 1) = q := ⟨_, rfl⟩
        have HQ := Lib.hid hq
        have HXY := Lib.hid hx
        clear he hx hok H hgd hmi hq
        have hq2 : (((missN D (x, y) : Nat) : Int) != 1) = q := HQ.out
        cases q
        · have h1 : cnt (legsAt D (x, y)) = 1 := by
            have := HQ.out
            unfold missN at this
            simp at this
            omega
          have hw1 := rwalk_one h1
          have hwk := fun (v : Value) X (hX : SlB X u D) => rwalk_any (v := v) D x y X hX HKK.out (by omega) hle
          have hwl := rwalk_len D (x, y)
          have hwn := Lib.hid (rwalk_near HKK.out hle)
          rw [hw1] at hwk hwl hwn
          have hwne : Hid (walkL D (x, y) ≠ []) := by unfold Hid walkL; simp
          have HT : Hid (tryRun D (x, y) = if isRunP D (walkL D (x, y)) then some (walkL D (x, y)) else none) := by
            unfold Hid tryRun
            rw [h1]
            cases isRunP D (walkL D (x, y)) <;> rfl
          obtain ⟨W, hW⟩ : ∃ W, walkL D (x, y) = W := ⟨_, rfl⟩
          rw [hW] at hwk hwl hwn HT hwne
          have hir := fun (v z : Value) X (hX : SlB X u D) (hz : SlK X z W) => risRun_any (v := v) D W X hX hz hwne.out hwn.out (by omega)
          obtain ⟨g, hg⟩ : ∃ g, isRunP D W = g := ⟨_, rfl⟩
          rw [hg] at hir HT
          clear hW hg h1 hw1 hle
          cases g
          · have HX : Hid (runO D = runI D l m) := by unfold Hid; rw [HM.out, HT.out]; rfl
            go_wp2
            refine wp_region_ords [0, 1, 2, 3, 4] [] [5, 6] (by kernel_rfl) (by kernel_rfl) (fun d _ _ _ _ h => by cases d <;> exact h) ?_
            simp only [List.map_cons, List.map_nil, List.getD_cons_zero, List.getD_cons_succ]
            repeat (go_big_quiet_step (fail))
            refine wpQuiet_nil ?_
            refine wpMid_nil ?_
            go_wp2_with (go_at_call 26; refine (hms _ _ hDr.drew).mono ?_; rintro e w4 ⟨rfl, hb4⟩)
            have hB4 := hBr.below (bl_d hb4)
            have fB4 := hB4.facts
            obtain ⟨_, f0, f1⟩ := (hr.below (bl_d hb4)).knotAt hlt
            rw [HXY.out] at f0 f1
            simp only at f0 f1
            refine wp_region_ords [0, 1, 2, 3, 4] [] [5, 6] (by kernel_rfl) (by kernel_rfl) (fun d _ _ _ _ h => by cases d <;> exact h) ?_
            simp only [List.map_cons, List.map_nil, List.getD_cons_zero, List.getD_cons_succ]
            repeat (go_big_quiet_step (fail))
            refine wpQuiet_nil ?_
            refine wpMid_nil ?_
            go_wp2_with (first | (go_at_call 27; refine (hwk _ _ (hDr.below (by (repeat (first | exact bl_refl | assumption | (apply bl_then; assumption) | refine bl_alloc ?_ _ | refine bl_drew ?_ | refine bl_drewN ?_ _))))).mono ?_; rintro e w5 ⟨v5, rfl, hown5, hb5⟩; obtain ⟨A5, c5, rfl⟩ := hown5.shape; have fB5 := (hB4.below (bl_d hb5)).facts) |
              (go_at_call 91; refine (hir _ _ _ (hDr.below (by (repeat (first | exact bl_refl | assumption | (apply bl_then; assumption) | refine bl_alloc ?_ _ | refine bl_drew ?_ | refine bl_drewN ?_ _)))) (hown5.rd kc_len)).mono ?_; rintro e w6 ⟨rfl, hb6⟩))
            go_roundw
            case rel => exact ⟨m, by omega, by go_num, HX, by (repeat (first | exact bl_refl | assumption | (apply bl_then; assumption) | refine bl_alloc ?_ _ | refine bl_drew ?_ | refine bl_drewN ?_ _))⟩
            case measure => simp [intOf]
          · have HX : Hid (runO D = some W) := by unfold Hid; rw [HM.out, HT.out]; rfl
            go_wp2
            refine wp_region_ords [0, 1, 2, 3, 4] [] [5, 6] (by kernel_rfl) (by kernel_rfl) (fun d _ _ _ _ h => by cases d <;> exact h) ?_
            simp only [List.map_cons, List.map_nil, List.getD_cons_zero, List.getD_cons_succ]
            repeat (go_big_quiet_step (fail))
            refine wpQuiet_nil ?_
            refine wpMid_nil ?_
            go_wp2_with (go_at_call 26; refine (hms _ _ hDr.drew).mono ?_; rintro e w4 ⟨rfl, hb4⟩)
            have hB4 := hBr.below (bl_d hb4)
            have fB4 := hB4.facts
            obtain ⟨_, f0, f1⟩ := (hr.below (bl_d hb4)).knotAt hlt
            rw [HXY.out] at f0 f1
            simp only at f0 f1
            refine wp_region_ords [0, 1, 2, 3, 4] [] [5, 6] (by kernel_rfl) (by kernel_rfl) (fun d _ _ _ _ h => by cases d <;> exact h) ?_
            simp only [List.map_cons, List.map_nil, List.getD_cons_zero, List.getD_cons_succ]
            repeat (go_big_quiet_step (fail))
            refine wpQuiet_nil ?_
            refine wpMid_nil ?_
            go_wp2_with (first | (go_at_call 27; refine (hwk _ _ (hDr.below (by (repeat (first | exact bl_refl | assumption | (apply bl_then; assumption) | refine bl_alloc ?_ _ | refine bl_drew ?_ | refine bl_drewN ?_ _))))).mono ?_; rintro e w5 ⟨v5, rfl, hown5, hb5⟩; obtain ⟨A5, c5, rfl⟩ := hown5.shape; have fB5 := (hB4.below (bl_d hb5)).facts) |
              (go_at_call 91; refine (hir _ _ _ (hDr.below (by (repeat (first | exact bl_refl | assumption | (apply bl_then; assumption) | refine bl_alloc ?_ _ | refine bl_drew ?_ | refine bl_drewN ?_ _)))) (hown5.rd kc_len)).mono ?_; rintro e w6 ⟨rfl, hb6⟩))
            go_ret2
            exact ⟨.slice A5 W.length c5, by rw [HX.out]; rfl, by rw [HX.out]; exact (hown5.below hb6).base_mono (Below.size (show Below w.heap.size w w4.drew by (repeat (first | exact bl_refl | assumption | (apply bl_then; assumption) | refine bl_alloc ?_ _ | refine bl_drew ?_ | refine bl_drewN ?_ _)))), by (repeat (first | exact bl_refl | assumption | (apply bl_then; assumption) | refine bl_alloc ?_ _ | refine bl_drew ?_ | refine bl_drewN ?_ _))⟩
        · have HX : Hid (runO D = runI D l m) := by
            unfold Hid
            have ht : tryRun D (x, y) = none := by
              unfold tryRun
              have : (cnt (legsAt D (x, y)) == 1) = false := by
                have := HQ.out
                unfold missN at this
                simp at this ⊢
                omega
              rw [this]; rfl
            rw [HM.out, ht]
          go_wp2
          refine wp_region_ords [0, 1, 2, 3, 4] [] [5, 6] (by kernel_rfl) (by kernel_rfl) (fun d _ _ _ _ h => by cases d <;> exact h) ?_
          simp only [List.map_cons, List.map_nil, List.getD_cons_zero, List.getD_cons_succ]
          repeat (go_big_quiet_step (fail))
          refine wpQuiet_nil ?_
          refine wpMid_nil ?_
          go_wp2_with (go_at_call 26; refine (hms _ _ hDr.drew).mono ?_; rintro e w4 ⟨rfl, hb4⟩)
          go_roundw
          case rel => exact ⟨m, by omega, by go_num, HX, by (repeat (first | exact bl_refl | assumption | (apply bl_then; assumption) | refine bl_alloc ?_ _ | refine bl_drew ?_ | refine bl_drewN ?_ _))⟩
          case measure => simp [intOf]
  · have hne : ((l.length : Int) != 2) = true := by simp; omega
    have HR := Lib.hid (HRL.out h2)
    go_enter Tryz.func28, Tryz.ntmps28
    go_wp2_with (go_at_call 55; refine (hoo _ _ hD0).mono ?_; rintro e w1 ⟨v1, rfl, hown1, hb1⟩; obtain ⟨A1, c1, rfl⟩ := hown1.shape)
    go_ret2
    exact ⟨.slice none 0 0, by rw [HR.out]; rfl, by rw [HR.out]; exact Own.nil_, by (repeat (first | exact bl_refl | assumption | (apply bl_then; assumption) | refine bl_alloc ?_ _ | refine bl_drew ?_ | refine bl_drewN ?_ _))⟩
theorem rready_any {v u : Value} (D : List Bar) (w : World) (hD : SlB w u D) (hk : ∀ b ∈ D, BarOk b) (hlen : D.length ≤ 50000) :
    Calls Tryz.prog 25 #[.agg #[v, u]] w (RV w (.bool (rdyB D))) := by
  have hB := Blk.new w 24 #[v, u]
  have fB := hB.facts
  have hD0 := hD.alloc (.cells #[v, u] 24)
  go_enter Tryz.func25, Tryz.ntmps25
  go_wp2_with (go_at_call 28; refine (rrun_any D _ hD0 hk hlen).mono ?_; rintro e w1 ⟨v1, rfl, hown1, hb1⟩)
  go_ret
  exact ⟨rfl, by (repeat (first | exact bl_refl | assumption | (apply bl_then; assumption) | refine bl_alloc ?_ _ | refine bl_drew ?_ | refine bl_drewN ?_ _))⟩
theorem rsound_any {v u : Value} (N D : List Bar) (w : World) (hN : SlB w v N) (hD : SlB w u D) (hlen : N.length ≤ 100000) :
    Calls Tryz.prog 50 #[.agg #[v, u]] w (RB w (wout N D)) := by
  have hB := Blk.new w 24 #[v, u]
  have fB := hB.facts
  have hD0 := hD.alloc (.cells #[v, u] 24)
  have hN0 := hN.alloc (.cells #[v, u] 24)
  go_enter Tryz.func50, Tryz.ntmps50
  go_wp2_with (go_at_call 72; refine (refWithout_any N D _ hN0 hD0 hlen).mono ?_; rintro e w1 ⟨v1, rfl, hown1, hb1⟩)
  go_ret
  exact ⟨_, rfl, hown1.base_mono (by simp), by (repeat (first | exact bl_refl | assumption | (apply bl_then; assumption) | refine bl_alloc ?_ _ | refine bl_drew ?_ | refine bl_drewN ?_ _))⟩
def someE (l a : List Bar) : Int := if netE l = 0 then whenI (unk l a) 10 else netE l
theorem rsome_any {v u : Value} (l a : List Bar) (w : World) (h : SlB w v l) (ha : SlB w u a) : Calls Tryz.prog 38 #[v, u] w (RV w (.int .i64 (someE l a))) := by
  go_enter Tryz.func38, Tryz.ntmps38
  go_wp2_with (first | (go_at_call 85; refine (rnet_sl _ _ h).mono ?_; rintro e w1 ⟨rfl, hb1⟩; (first | replace h := h.st0 hb1 | replace h := h.st1 hb1 | replace h := h.std hb1 | replace h := h.std1 hb1 | replace h := h.st2 hb1 | replace h := h.std2 hb1 | replace h := h.st3 hb1); (first | replace ha := ha.st0 hb1 | replace ha := ha.st1 hb1 | replace ha := ha.std hb1 | replace ha := ha.std1 hb1 | replace ha := ha.st2 hb1 | replace ha := ha.std2 hb1 | replace ha := ha.st3 hb1)) | (go_at_call 44; refine (unknown_any l a _ h ha).mono ?_; rintro e w1 ⟨rfl, hb1⟩))
  all_goals go_ret
  all_goals refine ⟨ret_int ?_, by (repeat (first | exact bl_refl | assumption | (apply bl_then; assumption) | refine bl_alloc ?_ _ | refine bl_drew ?_ | refine bl_drewN ?_ _))⟩
  all_goals simp_all [someE, whenI]
end Go.Proofs.YthcnngoaijgnoaaGreat

/- Lists of bars together, the torn net that lacks further bars, and the one that a patch leaves, of the reference, walked. Conditions: the slices read as lists. -/
namespace Go.Proofs.YthcnngoaijgnoaaGreat
open Go.RowKit Go.ChangeMaps
set_option maxHeartbeats 4000000
set_option maxRecDepth 100000

theorem insB_len (b : Bar) : ∀ l : List Bar, (insB l b).length = l.length + 1
  | [] => rfl
  | x :: r => by
    unfold insB
    split
    · simp [insB_len b r]
    · simp
def tog (a b : List Bar) : List Bar := b.foldl (fun o x => if hasb o x then o else insB o x) a
theorem tog_take {a b : List Bar} {k : Nat} (hk : k < b.length) : tog a (b.take (k + 1)) = if hasb (tog a (b.take k)) b[k] then tog a (b.take k) else insB (tog a (b.take k)) b[k] := by
  unfold tog
  rw [List.take_succ_eq_append_getElem hk, List.foldl_append]; rfl
theorem tog_len : ∀ (b a : List Bar), (tog a b).length ≤ a.length + b.length
  | [], a => by simp [tog]
  | x :: b, a => by
    show (tog (if hasb a x then a else insB a x) b).length ≤ _
    have h := tog_len b (if hasb a x then a else insB a x)
    have h2 := insB_len x a
    split at h
    · rename_i hh; rw [if_pos hh]; simp only [List.length_cons]; omega
    · rename_i hh; rw [if_neg hh]; simp only [List.length_cons]; omega
theorem rtog_any {v u : Value} (a b : List Bar) (w : World) (ha : SlB w v a) (hb : SlB w u b) (hlen : a.length + b.length ≤ 100000) : Calls Tryz.prog 68 #[v, u] w (RB w (tog a b)) := by
  obtain ⟨A, c, rfl, hlc, hcm, h⟩ := hb
  go_enter Tryz.func68, Tryz.ntmps68
  go_wp2_with (at_builtin; refine wpList_appBS (Own.empty bc 3 w _) (ha.alloc _) rfl _ _ rfl rfl rfl (by simp; omega) (by simp) ?_; intro v1 w1 hown1 hgr1)
  have hb1 : Below w.heap.size w w1 := bl_grown hgr1 (bl_alloc bl_refl _) fun k hk => by simp [Value.ownBlock] at hk; omega
  rw [List.nil_append] at hown1
  go_loopw [5, 6] (fun o i wr => ∃ k : Nat, k ≤ b.length ∧ i = .int .i64 k ∧ OwB w.heap.size wr o (tog a (b.take k)) ∧ Below w.heap.size w wr) (fun _ i _ => b.length - (intOf i).toNat)
  case atStart => exact ⟨0, Nat.zero_le _, rfl, hown1, hb1⟩
  case round =>
    clear hown1 hb1 hgr1
    obtain ⟨k, hk, rfl, hown, hbw⟩ := hrel
    by_cases hlt : k < b.length
    · have hr := h.below hbw
      have HT := Lib.hid (tog_take (a := a) hlt)
      have htl := tog_len (b.take k) a
      have htk : (b.take k).length ≤ k := by simp; omega
      obtain ⟨l, hl⟩ : ∃ l, tog a (b.take k) = l := ⟨_, rfl⟩
      rw [hl] at hown HT htl
      have hll : l.length ≤ 100000 := by omega
      obtain ⟨A5, c5, rfl⟩ := hown.shape
      obtain ⟨bb, off, rfl, hbb, e0, e1, e2⟩ := hr.bar hlt
      obtain ⟨⟨x, y, s⟩, hx⟩ : ∃ z, b[k] = z := ⟨_, rfl⟩
      rw [hx] at e0 e1 e2 HT
      simp only at e0 e1 e2
      have HX := Lib.hid hx
      have hh := fun v X (hX : SlB X v l) => has_any (v := v) l x y s X hX
      obtain ⟨q, hq⟩ : ∃ q, hasb l (x, y, s) = q := ⟨_, rfl⟩
      rw [hq] at hh HT
      clear hl hx hq htl htk
      cases q
      · go_wp2_with (first | (go_at_call 46; refine (hh _ _ (hown.rd bc_len)).mono ?_; rintro e w4 ⟨rfl, hb4⟩; have hr4 := hr.below hb4; obtain ⟨_, f0, f1, f2⟩ := hr4.barAt hlt; rw [HX.out] at f0 f1 f2; simp only at f0 f1 f2) |
          (go_at_call 73; refine (rwith_any l x y s _ ((hown.below hb4).rd bc_len) hll).mono ?_; rintro e w5 ⟨v5, rfl, hown5, hb5⟩))
        go_roundw
        case rel => exact ⟨k + 1, by omega, by go_num, by rw [HT.out]; exact hown5.base_mono (Below.size (show Below w.heap.size w w4 by (repeat (first | exact bl_refl | assumption | (apply bl_then; assumption) | refine bl_alloc ?_ _ | refine bl_drew ?_ | refine bl_drewN ?_ _)))), by (repeat (first | exact bl_refl | assumption | (apply bl_then; assumption) | refine bl_alloc ?_ _ | refine bl_drew ?_ | refine bl_drewN ?_ _))⟩
        case measure => simp [intOf]; omega
      · go_wp2_with (first | (go_at_call 46; refine (hh _ _ (hown.rd bc_len)).mono ?_; rintro e w4 ⟨rfl, hb4⟩))
        go_roundw
        case rel => exact ⟨k + 1, by omega, by go_num, by rw [HT.out]; exact hown.below hb4, by (repeat (first | exact bl_refl | assumption | (apply bl_then; assumption) | refine bl_alloc ?_ _ | refine bl_drew ?_ | refine bl_drewN ?_ _))⟩
        case measure => simp [intOf]; omega
    · have HE : Hid (tog a b = tog a (b.take k)) := by unfold Hid; rw [List.take_of_length_le (by omega)]
      obtain ⟨A5, c5, rfl⟩ := hown.shape
      go_wp2
      go_ret
      exact ⟨_, rfl, by rw [HE.out]; exact hown, hbw⟩
/-- the call returns a torn net: the old net, and a fresh row of bars -/
def RT (w : World) (v : Value) (l : List Bar) (e : Ending) (w' : World) : Prop := ∃ u', e = .returned (.agg #[v, u']) ∧ OwB w.heap.size w' u' l ∧ Below w.heap.size w w'
theorem rcut_any {v u z : Value} (N D l : List Bar) (w : World) (hN : SlB w v N) (hD : SlB w u D) (hl : SlB w z l) (hlen : D.length + l.length ≤ 100000) : Calls Tryz.prog 51 #[.agg #[v, u], z] w (RT w v (tog D l)) := by
  have hN' := hN
  obtain ⟨A, c, rfl, _⟩ := hN'
  clear hN
  have hB := (Blk.new w 24 #[.slice A N.length c, u]).alloc (.cells #[.slice none 0 0, .slice none 0 0] 24)
  have fB := hB.facts
  have hR := Blk.new1 w (.cells #[.slice A N.length c, u] 24) 24 #[.slice none 0 0, .slice none 0 0]
  have hD0 := (hD.alloc (.cells #[.slice A N.length c, u] 24)).alloc (.cells #[.slice none 0 0, .slice none 0 0] 24)
  have hl0 := (hl.alloc (.cells #[.slice A N.length c, u] 24)).alloc (.cells #[.slice none 0 0, .slice none 0 0] 24)
  go_enter Tryz.func51, Tryz.ntmps51
  go_wp2
  refine wp_region_ords [0, 1, 2, 3, 4] [(5, false)] [6, 7] (by kernel_rfl) (by kernel_rfl) (fun d _ _ _ _ h => by cases d <;> exact h) ?_
  simp only [List.map_cons, List.map_nil, List.getD_cons_zero, List.getD_cons_succ]
  repeat (go_big_quiet_step (fail))
  refine wpQuiet_nil ?_
  refine wpMid_run rfl (fun K hK => ?_)
  go_simp
  refine (rtog_any D l _ hD0.drew hl0.drew hlen).mono ?_
  rintro e w1 ⟨v1, rfl, hown1, hb1⟩
  refine hK _ _ (by (repeat (first | exact bl_refl | assumption | (apply bl_then; assumption) | refine bl_alloc ?_ _ | refine bl_drew ?_ | refine bl_drewN ?_ _))) ?_
  clear hK K
  refine wpMid_nil ?_
  obtain ⟨A1, c1, rfl⟩ := hown1.shape
  have hR1 := hR.below (bl_d hb1)
  go_wp2_with (refine wpList_store_blk hR1 rfl _ _ _ rfl rfl rfl (by rfl) (by kernel_rfl) (by kernel_rfl) ?_; intro w3 hR3 hc3)
  have fR := hR3.facts
  have hbw := (((Chg.of_below (show Below w.heap.size w w1 by (repeat (first | exact bl_refl | assumption | (apply bl_then; assumption) | refine bl_alloc ?_ _ | refine bl_drew ?_ | refine bl_drewN ?_ _)))).trans (hc3.mono (S' := [w.heap.size + 1]) (by simp))).below (by simp) (Nat.le_refl _))
  refine bodyPost_ret (v := .agg #[.slice A N.length c, .slice A1 (tog D l).length c1]) (by simp [results, Tryz.results51, go_sem, fR]) rfl ?_
  refine ⟨_, rfl, ?_, hbw⟩
  exact Own.base_mono (Own.chg hown1 hc3 (by simp)) (by simp; omega)
theorem rseam_any {v u z : Value} (N D l : List Bar) (w : World) (hN : SlB w v N) (hD : SlB w u D) (hl : SlB w z l) (hlen : D.length ≤ 100000) : Calls Tryz.prog 40 #[.agg #[v, u], z] w (RT w v (wout D l)) := by
  have hN' := hN
  obtain ⟨A, c, rfl, _⟩ := hN'
  clear hN
  have hB := (Blk.new w 24 #[.slice A N.length c, u]).alloc (.cells #[.slice none 0 0, .slice none 0 0] 24)
  have fB := hB.facts
  have hR := Blk.new1 w (.cells #[.slice A N.length c, u] 24) 24 #[.slice none 0 0, .slice none 0 0]
  have hD0 := (hD.alloc (.cells #[.slice A N.length c, u] 24)).alloc (.cells #[.slice none 0 0, .slice none 0 0] 24)
  have hl0 := (hl.alloc (.cells #[.slice A N.length c, u] 24)).alloc (.cells #[.slice none 0 0, .slice none 0 0] 24)
  go_enter Tryz.func40, Tryz.ntmps40
  go_wp2
  refine wp_region_ords [0, 1, 2, 3, 4] [(5, false)] [6, 7] (by kernel_rfl) (by kernel_rfl) (fun d _ _ _ _ h => by cases d <;> exact h) ?_
  simp only [List.map_cons, List.map_nil, List.getD_cons_zero, List.getD_cons_succ]
  repeat (go_big_quiet_step (fail))
  refine wpQuiet_nil ?_
  refine wpMid_run rfl (fun K hK => ?_)
  go_simp
  refine (refWithout_any D l _ hD0.drew hl0.drew hlen).mono ?_
  rintro e w1 ⟨v1, rfl, hown1, hb1⟩
  refine hK _ _ (by (repeat (first | exact bl_refl | assumption | (apply bl_then; assumption) | refine bl_alloc ?_ _ | refine bl_drew ?_ | refine bl_drewN ?_ _))) ?_
  clear hK K
  refine wpMid_nil ?_
  obtain ⟨A1, c1, rfl⟩ := hown1.shape
  have hR1 := hR.below (bl_d hb1)
  go_wp2_with (refine wpList_store_blk hR1 rfl _ _ _ rfl rfl rfl (by rfl) (by kernel_rfl) (by kernel_rfl) ?_; intro w3 hR3 hc3)
  have fR := hR3.facts
  have hbw := (((Chg.of_below (show Below w.heap.size w w1 by (repeat (first | exact bl_refl | assumption | (apply bl_then; assumption) | refine bl_alloc ?_ _ | refine bl_drew ?_ | refine bl_drewN ?_ _)))).trans (hc3.mono (S' := [w.heap.size + 1]) (by simp))).below (by simp) (Nat.le_refl _))
  refine bodyPost_ret (v := .agg #[.slice A N.length c, .slice A1 (wout D l).length c1]) (by simp [results, Tryz.results40, go_sem, fR]) rfl ?_
  refine ⟨_, rfl, ?_, hbw⟩
  exact Own.base_mono (Own.chg hown1 hc3 (by simp)) (by simp; omega)
end Go.Proofs.YthcnngoaijgnoaaGreat

/- Legs told apart, and copied, of the reference and the statement, walked. Conditions: none. -/
namespace Go.Proofs.YthcnngoaijgnoaaGreat
open Go.RowKit Go.ChangeMaps
set_option maxHeartbeats 4000000
set_option maxRecDepth 100000

def legB (x y m : Int) (a : ByteArray) (x' y' m' : Int) (b : ByteArray) : Bool := beqK x y x' y' && (decide (m = m') && decide (a.toList = b.toList))
theorem eqin_leg (d : Nat) (x y m x' y' m' : Int) (a b : ByteArray) (w : World) : (Op.equalIn (d + 3) 101 (.agg #[.int .i64 x, .int .i64 y, .int .i64 m, .string a]) (.agg #[.int .i64 x', .int .i64 y', .int .i64 m', .string b])).run Tryz.prog w = .ok (legB x y m a x' y' m' b) w := by
  rw [run_equalIn_struct w (d + 2) 101 _ _ (by kernel_rfl) (by kernel_rfl)]
  unfold legB beqK
  by_cases h1 : x = x' <;> by_cases h2 : y = y' <;> by_cases h3 : m = m' <;> by_cases h4 : a.toList = b.toList <;> simp [go_sem, h1, h2, h3, h4]
@[go_sem high] theorem neq_leg (x y m x' y' m' : Int) (a b : ByteArray) (w : World) : (binOp .neq 101 (.agg #[.int .i64 x, .int .i64 y, .int .i64 m, .string a]) (.agg #[.int .i64 x', .int .i64 y', .int .i64 m', .string b])).run Tryz.prog w = .ok (.bool (!legB x y m a x' y' m' b)) w := by
  simp only [binOp]
  simp [Op.equal, Op.maxDepth, eqin_leg 9997]
abbrev SlL := Sl lc 4
abbrev OwM (base : Nat) := Own lc 4 base 101
theorem mleg_elem : Elem Tryz.prog 80 101 4 40 := ⟨by kernel_rfl, by kernel_rfl, by decide⟩
theorem Rd.leg {w : World} {A : Option Addr} {l : List LegT} (h : Rd lc 4 w A l) {k : Nat} (hk : k < l.length) : ∃ b off, A = some ⟨b, off, none⟩ ∧ b < w.heap.size ∧
    w.cell? ⟨b, off + k * 4, none⟩ = some (.int .i64 l[k].1.1) ∧ w.cell? ⟨b, off + k * 4 + 1, none⟩ = some (.int .i64 l[k].1.2) ∧ w.cell? ⟨b, off + k * 4 + 2, none⟩ = some (.int .i64 l[k].2.1) ∧ w.cell? ⟨b, off + k * 4 + 3, none⟩ = some (kstr l[k].2.2) := by
  obtain ⟨b, off, e, hlt, hc⟩ := h k l[k] (List.getElem?_eq_getElem hk)
  exact ⟨b, off, e, hlt, by simpa using hc 0 _ rfl, hc 1 _ rfl, hc 2 _ rfl, hc 3 _ rfl⟩
theorem Rd.legAt {w : World} {b off : Nat} {l : List LegT} (h : Rd lc 4 w (some ⟨b, off, none⟩) l) {k : Nat} (hk : k < l.length) : b < w.heap.size ∧
    w.cell? ⟨b, off + k * 4, none⟩ = some (.int .i64 l[k].1.1) ∧ w.cell? ⟨b, off + k * 4 + 1, none⟩ = some (.int .i64 l[k].1.2) ∧ w.cell? ⟨b, off + k * 4 + 2, none⟩ = some (.int .i64 l[k].2.1) ∧ w.cell? ⟨b, off + k * 4 + 3, none⟩ = some (kstr l[k].2.2) := by
  obtain ⟨b', off', e, hlt, h1⟩ := h.leg hk
  obtain ⟨rfl, rfl⟩ : b = b' ∧ off = off' := by simpa using e
  exact ⟨hlt, h1⟩
theorem Sl.one_mleg (w : World) (x : LegT) : Sl lc 4 (w.alloc (.cells #[.int .i64 x.1.1, .int .i64 x.1.2, .int .i64 x.2.1, kstr x.2.2] 101)) (.slice (some ⟨w.heap.size, 0, none⟩) 1 1) [x] := by
  have hB := Blk.new w 101 #[.int .i64 x.1.1, .int .i64 x.1.2, .int .i64 x.2.1, kstr x.2.2]
  refine ⟨_, 1, rfl, by simp, by simp [maxLen], fun i b hb => ?_⟩
  match i, hb with
  | 0, hb =>
    obtain rfl : x = b := by simpa using hb
    refine ⟨_, 0, rfl, hB.lt, fun j u hj => ?_⟩
    rw [hB.cell]
    simpa [lc] using hj
theorem wpList_appM {ops : Array Oper} {rest : List Oper} {o : Oper} {a : Act} {Q : Exit → Act → World → Prop} {base : Nat} {W : World} {v : Value} {x y : Int} {m : Int} {z : LegT} {i : Nat} {l : List LegT} (hown : OwM base W v l) (hgd : o.guard = none) (s p : Operand)
    (ho : o.op = .call { callee := .builtin .append, args := #[s, p], argTypes := #[80, 80] })
    (hs : a.eval s = v) (hx : a.eval p = .slice (some ⟨W.heap.size, 0, none⟩) 1 1) (hz : z = ((x, y), m.toNat, i)) (hm : 0 ≤ m) (hlen : l.length ≤ 1000000) (hbase : base ≤ W.heap.size)
    (h : ∀ v' w', OwM base w' v' (l ++ [z]) → (W.alloc (.cells #[.int .i64 x, .int .i64 y, .int .i64 m, kstr i] 101)).grownBy w' v.ownBlock → wpList Tryz.prog ops Q rest (a.put o.dst v') w') :
    wpList Tryz.prog ops Q (o :: rest) a (W.alloc (.cells #[.int .i64 x, .int .i64 y, .int .i64 m, kstr i] 101)) := by
  subst hz
  obtain ⟨n, rfl⟩ : ∃ n : Nat, m = n := ⟨m.toNat, by omega⟩
  exact wpList_app hgd mleg_elem lc_len lc_one s p ho base v _ l [((x, y), n, i)] hs hx (hown.alloc _) (Sl.one_mleg W ((x, y), n, i)) (by simp [maxLen]; omega) (by simp; omega) (by simp; omega) h
def legE (a b : LegT) : Bool := legB a.1.1 a.1.2 a.2.1 (kby a.2.2) b.1.1 b.1.2 b.2.1 (kby b.2.2)
def sameL : List LegT → List LegT → Bool
  | [], [] => true
  | a :: r, b :: s => legE a b && sameL r s
  | _, _ => false
theorem sameL_len : ∀ {l r : List LegT}, l.length ≠ r.length → sameL l r = false
  | [], [], h => absurd rfl h
  | [], _ :: _, _ => rfl
  | _ :: _, [], _ => rfl
  | a :: l, b :: r, h => by
    unfold sameL
    rw [sameL_len (fun e => h (by simp [e]))]
    simp
theorem sameL_drop {l r : List LegT} {k : Nat} (hk : k < l.length) (hk' : k < r.length) : sameL (l.drop k) (r.drop k) = (legE l[k] r[k] && sameL (l.drop (k + 1)) (r.drop (k + 1))) := by
  rw [List.drop_eq_getElem_cons hk, List.drop_eq_getElem_cons hk', sameL]
theorem sameLegs_any {v u : Value} (l r : List LegT) (w : World) (h : SlL w v l) (h' : SlL w u r) : Calls Tryz.prog 58 #[v, u] w (RV w (.bool (sameL l r))) := by
  obtain ⟨A, c, rfl, hlc, hcm, h⟩ := h
  obtain ⟨A', c', rfl, hlc', hcm', h'⟩ := h'
  have hl : l.length ≤ maxLen := Nat.le_trans hlc hcm
  have hl' : r.length ≤ maxLen := Nat.le_trans hlc' hcm'
  unfold maxLen at hl hl'
  by_cases hlen : l.length = r.length
  · have hne : ((l.length : Int) != (r.length : Int)) = false := by simp; omega
    go_enter Tryz.func58, Tryz.ntmps58
    go_wp2
    go_loopw [5] (fun i wr => ∃ k : Nat, k ≤ l.length ∧ i = .int .i64 k ∧ Hid (sameL l r = sameL (l.drop k) (r.drop k)) ∧ Below w.heap.size w wr) (fun i _ => l.length - (intOf i).toNat)
    case atStart => exact ⟨0, Nat.zero_le _, rfl, by simp [Hid], by (repeat (first | exact bl_refl | assumption | (apply bl_then; assumption) | refine bl_alloc ?_ _ | refine bl_drew ?_ | refine bl_drewN ?_ _))⟩
    case round =>
      obtain ⟨k, hk, rfl, H, hbw⟩ := hrel
      by_cases hlt : k < l.length
      · have hlt' : k < r.length := by omega
        have hr := h.below hbw
        have hr' := h'.below hbw
        obtain ⟨b, off, rfl, hb, e0, e1, e2, e3⟩ := hr.leg hlt
        obtain ⟨b', off', rfl, hb', f0, f1, f2, f3⟩ := hr'.leg hlt'
        have HD := Lib.hid (sameL_drop hlt hlt')
        obtain ⟨g, hg⟩ : ∃ g, legB l[k].1.1 l[k].1.2 l[k].2.1 (kby l[k].2.2) r[k].1.1 r[k].1.2 r[k].2.1 (kby r[k].2.2) = g := ⟨_, rfl⟩
        have HG : Hid (legE l[k] r[k] = g) := hg
        cases g
        · go_wp2
          refine wp_region_ords [0, 1, 2, 3, 4, 5, 6, 7, 8] [] [] (by kernel_rfl) (by kernel_rfl) (fun d _ _ _ _ h => by cases d <;> exact h) ?_
          simp only [List.map_cons, List.map_nil, List.getD_cons_zero, List.getD_cons_succ]
          repeat (go_big_quiet_step (fail))
          refine wpQuiet_nil ?_
          refine wpMid_nil ?_
          go_wp2
          go_ret
          exact ⟨ret_bool (by rw [H.out, HD.out, HG.out]; rfl), by (repeat (first | exact bl_refl | assumption | (apply bl_then; assumption) | refine bl_alloc ?_ _ | refine bl_drew ?_ | refine bl_drewN ?_ _))⟩
        · go_wp2
          refine wp_region_ords [0, 1, 2, 3, 4, 5, 6, 7, 8] [] [] (by kernel_rfl) (by kernel_rfl) (fun d _ _ _ _ h => by cases d <;> exact h) ?_
          simp only [List.map_cons, List.map_nil, List.getD_cons_zero, List.getD_cons_succ]
          repeat (go_big_quiet_step (fail))
          refine wpQuiet_nil ?_
          refine wpMid_nil ?_
          go_wp2
          go_roundw
          case rel => exact ⟨k + 1, by omega, by go_num, by unfold Hid; rw [H.out, HD.out, HG.out]; rfl, by (repeat (first | exact bl_refl | assumption | (apply bl_then; assumption) | refine bl_alloc ?_ _ | refine bl_drew ?_ | refine bl_drewN ?_ _))⟩
          case measure => simp [intOf]; omega
      · have hkl : k = l.length := by omega
        have HE : Hid (sameL l r = true) := by
          unfold Hid
          rw [H.out, List.drop_eq_nil_of_le (by omega), List.drop_eq_nil_of_le (by omega)]; rfl
        go_wp2
        go_ret
        exact ⟨ret_bool HE.out.symm, by (repeat (first | exact bl_refl | assumption | (apply bl_then; assumption) | refine bl_alloc ?_ _ | refine bl_drew ?_ | refine bl_drewN ?_ _))⟩
  · have hne : ((l.length : Int) != (r.length : Int)) = true := by simp; omega
    have HE := Lib.hid (sameL_len hlen)
    go_enter Tryz.func58, Tryz.ntmps58
    go_wp2
    go_ret
    exact ⟨ret_bool HE.out.symm, by (repeat (first | exact bl_refl | assumption | (apply bl_then; assumption) | refine bl_alloc ?_ _ | refine bl_drew ?_ | refine bl_drewN ?_ _))⟩
theorem llegs_any {v : Value} (l : List LegT) (w : World) (h : SlL w v l) (hlen : l.length ≤ 300000) : Calls Tryz.prog 59 #[v] w (fun e w' => ∃ v', e = .returned v' ∧ OwM w.heap.size w' v' l ∧ Below w.heap.size w w') := by
  obtain ⟨A, c, rfl, hlc, hcm, h⟩ := h
  go_enter Tryz.func59, Tryz.ntmps59
  go_wp2
  go_loopw [3, 8] (fun o i wr => ∃ k : Nat, k ≤ l.length ∧ i = .int .i64 k ∧ OwM w.heap.size wr o (l.take k) ∧ Below w.heap.size w wr) (fun _ i _ => l.length - (intOf i).toNat)
  case atStart => exact ⟨0, Nat.zero_le _, rfl, Own.nil_, by (repeat (first | exact bl_refl | assumption | (apply bl_then; assumption) | refine bl_alloc ?_ _ | refine bl_drew ?_ | refine bl_drewN ?_ _))⟩
  case round =>
    obtain ⟨k, hk, rfl, hown, hbw⟩ := hrel
    by_cases hlt : k < l.length
    · have hr := h.below hbw
      obtain ⟨b, off, rfl, hb, e0, e1, e2, e3⟩ := hr.leg hlt
      have htl : (l.take k).length ≤ 1000000 := by simp; omega
      have HT := Lib.hid (List.take_succ_eq_append_getElem hlt)
      have hol := hown.lt
      go_wp2_with (first | (refine wpList_store_blk (Blk.new _ _ _) rfl _ _ _ rfl rfl rfl (by rfl) (by kernel_rfl) (by kernel_rfl) ?_; intro w4 hB4 hc4; have f4 := hB4.facts; have hown4 := (hown.alloc _).chg1 hc4 (fun h => Nat.lt_irrefl _ (hol _ h).2); have hb4 : Below w.heap.size w w4 := ((Chg.of_below (S := [wr.heap.size]) (bl_alloc hbw _)).trans hc4).below (by simp; exact hbw.size) (Nat.le_refl _)) |
        (at_builtin; refine wpList_appM hown4 rfl _ _ rfl rfl rfl (z := l[k]) rfl (by omega) htl hb4.size ?_; intro v2 w2 hown2 hgr2))
      have hbw2 := own_step hown4 hgr2 (by (repeat (first | exact bl_refl | assumption | (apply bl_then; assumption) | refine bl_alloc ?_ _ | refine bl_drew ?_ | refine bl_drewN ?_ _)))
      go_roundw
      case rel => exact ⟨k + 1, by omega, by go_num, by rw [HT.out]; exact hown2, hbw2⟩
      case measure => simp [intOf]; omega
    · have HE : Hid (l.take k = l) := List.take_of_length_le (by omega)
      obtain ⟨A2, c2, rfl⟩ := hown.shape
      go_wp2
      go_ret
      exact ⟨_, rfl, by rw [HE.out] at hown; rw [HE.out]; exact hown, hbw⟩
end Go.Proofs.YthcnngoaijgnoaaGreat

/- The nets of the statement's examples, walked. Conditions: none. -/
namespace Go.Proofs.YthcnngoaijgnoaaGreat
open Go.RowKit Go.ChangeMaps
set_option maxHeartbeats 4000000
set_option maxRecDepth 100000

theorem own_new (W : World) {base : Nat} (hb : base ≤ W.heap.size) (l : List Bar) (hl : l.length ≤ 1000) (cs : Array Value) (hc : cs = (l.flatMap bc).toArray) (n : Nat) (hn : n = l.length) : OwB base (W.alloc (.cells cs 70)) (.slice (some ⟨W.heap.size, 0, none⟩) n n) l := by
  subst hc hn
  have hs : ∀ l : List Bar, (l.flatMap bc).length = l.length * 3 := fun l => by
    induction l with
    | nil => rfl
    | cons a r ih => simp [bc, ih]; omega
  exact ⟨hs l, .inr ⟨W.heap.size, l.length, _, rfl, hb, heap_alloc_new W _, Nat.le_refl _, by simp [maxLen]; omega, by simpa using hs l, by rw [← hs l]; exact List.take_length⟩⟩
def meshL : List Bar := [(3, 1, -1), (3, 1, 1), (2, 2, 1), (4, 2, -1)]
def furtherL : List Bar := [(1, 1, 1), (2, 2, -1)]
theorem mesh_any (w : World) : Calls Tryz.prog 75 #[] w (RB w meshL) := by
  go_enter Tryz.func75, Tryz.ntmps75
  go_wp2
  go_ret
  exact ⟨_, rfl, own_new w (Nat.le_refl _) meshL (by decide) _ rfl 4 rfl, by (repeat (first | exact bl_refl | assumption | (apply bl_then; assumption) | refine bl_alloc ?_ _ | refine bl_drew ?_ | refine bl_drewN ?_ _))⟩
theorem further_any (w : World) : Calls Tryz.prog 76 #[] w (RB w furtherL) := by
  go_enter Tryz.func76, Tryz.ntmps76
  go_wp2
  go_ret
  exact ⟨_, rfl, own_new w (Nat.le_refl _) furtherL (by decide) _ rfl 2 rfl, by (repeat (first | exact bl_refl | assumption | (apply bl_then; assumption) | refine bl_alloc ?_ _ | refine bl_drew ?_ | refine bl_drewN ?_ _))⟩
def sqS (y x s : Int) : List Bar := if 0 ≤ x + s ∧ x + s ≤ 6 then [(x, y, s)] else []
def sd : Nat → Int
  | 0 => -1
  | _ => 1
def sqTo (y x : Int) : Nat → List Bar
  | 0 => []
  | i + 1 => sqTo y x i ++ sqS y x (sd i)
def sqJ (y : Int) : Nat → List Bar
  | 0 => []
  | j + 1 => sqJ y j ++ sqTo y (y % 2 + 2 * j) 2
def sqN (y : Int) : Nat := if y % 2 = 0 then 4 else 3
def sqY : Nat → List Bar
  | 0 => []
  | k + 1 => sqY k ++ sqJ k (sqN k)
def squareL : List Bar := sqY 6
theorem sqS_len (y x s : Int) : (sqS y x s).length ≤ 1 := by unfold sqS; split <;> simp
theorem sqTo_len (y x : Int) : ∀ i, (sqTo y x i).length ≤ i
  | 0 => Nat.le_refl _
  | i + 1 => by
    have h := sqTo_len y x i
    have h2 := sqS_len y x (sd i)
    simp only [sqTo, List.length_append]
    omega
theorem sqJ_len (y : Int) : ∀ j, (sqJ y j).length ≤ 2 * j
  | 0 => Nat.le_refl _
  | j + 1 => by
    have h := sqJ_len y j
    have h2 := sqTo_len y (y % 2 + 2 * j) 2
    simp only [sqJ, List.length_append]
    omega
theorem sqY_len : ∀ k, (sqY k).length ≤ 8 * k
  | 0 => Nat.le_refl _
  | k + 1 => by
    have h := sqY_len k
    have h2 := sqJ_len k (sqN k)
    have h3 : sqN k ≤ 4 := by unfold sqN; split <;> omega
    simp only [sqY, List.length_append]
    omega
theorem square_any (w : World) : Calls Tryz.prog 74 #[] w (RB w squareL) := by
  go_enter Tryz.func74, Tryz.ntmps74
  go_wp2
  go_loopw [1, 6] (fun o i wr => ∃ k : Nat, k ≤ 6 ∧ i = .int .i64 k ∧ OwB w.heap.size wr o (sqY k) ∧ Below w.heap.size w wr) (fun _ i _ => 6 - (intOf i).toNat)
  case atStart => exact ⟨0, by omega, rfl, Own.nil_, by (repeat (first | exact bl_refl | assumption | (apply bl_then; assumption) | refine bl_alloc ?_ _ | refine bl_drew ?_ | refine bl_drewN ?_ _))⟩
  case round =>
    obtain ⟨k, hk, rfl, hown, hbw⟩ := hrel
    by_cases hlt : k < 6
    · have hl1 := sqY_len k
      have H1 : Hid (sqY (k + 1) = sqY k ++ sqJ k (sqN k)) := rfl
      obtain ⟨a0, ha0⟩ : ∃ a, sqY k = a := ⟨_, rfl⟩
      rw [ha0] at hown H1 hl1
      have hmod : (k : Int) % 2 = 0 ∨ (k : Int) % 2 = 1 := by omega
      have hnn : sqN k = if (k : Int) % 2 = 0 then 4 else 3 := rfl
      obtain ⟨n, hn⟩ : ∃ n, sqN k = n := ⟨_, rfl⟩
      rw [hn] at H1 hnn
      have hnx : ∀ j : Nat, ((k : Int) % 2 + 2 * j ≤ 6 ↔ j < n) ∧ n ≤ 4 := fun j => by rcases hmod with h | h <;> rw [h] at hnn ⊢ <;> simp at hnn <;> omega
      have HNX := Lib.hid hnx
      have hkt : ((k : Int) < 6) = True := by simp; omega
      clear ha0 hn hnn hnx
      go_wp2
      go_loopw [1, 3] (fun o x wr => ∃ j : Nat, j ≤ n ∧ x = .int .i64 ((k : Int) % 2 + 2 * j) ∧ OwB w.heap.size wr o (a0 ++ sqJ k j) ∧ Below w.heap.size w wr) (fun _ x _ => (8 - intOf x).toNat)
      case atStart => exact ⟨0, Nat.zero_le _, by simp, by simpa [sqJ] using hown, hbw⟩
      case round =>
        clear hown hbw
        obtain ⟨j, hj, rfl, hown, hbw⟩ := hrel
        have hnj := (HNX.out j).1
        have hn4 := (HNX.out j).2
        by_cases hlt2 : j < n
        · have hl2 := sqJ_len k j
          have H2 : Hid (sqJ k (j + 1) = sqJ k j ++ sqTo k ((k : Int) % 2 + 2 * j) 2) := rfl
          have hx6 := hnj.2 hlt2
          have hx0 : 0 ≤ (k : Int) % 2 + 2 * j := by omega
          obtain ⟨x, hx⟩ : ∃ x, (k : Int) % 2 + 2 * j = x := ⟨_, rfl⟩
          have hxt : (x ≤ 6) = True := by simp; omega
          have HX := Lib.hid hx
          obtain ⟨a1, ha1⟩ : ∃ a, a0 ++ sqJ k j = a := ⟨_, rfl⟩
          have H3 : Hid (a0 ++ sqJ k (j + 1) = a1 ++ sqTo k x 2) := by unfold Hid; rw [H2.out, ← List.append_assoc, ha1, hx]
          have hl3 : a1.length ≤ 100 := by rw [← ha1, List.length_append]; omega
          rw [hx]
          rw [hx] at hx6 hx0
          rw [ha1] at hown
          clear ha1 hnj hx H2 hl2 hl1
          have hS := Blk.new wr 3 #[.int .i64 (-1), .int .i64 1]
          have hwg := hbw.size
          obtain ⟨g, hg⟩ : ∃ g, wr.heap.size = g := ⟨_, rfl⟩
          rw [hg] at hS hwg
          have hol := hown.lt
          rw [hg] at hol
          go_wp2
          go_loopw [1, 17] (fun o i wz => ∃ i' : Nat, i' ≤ 2 ∧ i = .int .i64 i' ∧ OwB w.heap.size wz o (a1 ++ sqTo k x i') ∧ Blk wz g 3 #[.int .i64 (-1), .int .i64 1] ∧ Below w.heap.size w wz) (fun _ i _ => 2 - (intOf i).toNat)
          case atStart => exact ⟨0, by omega, rfl, by simpa [sqTo] using hown.alloc _, hS, by (repeat (first | exact bl_refl | assumption | (apply bl_then; assumption) | refine bl_alloc ?_ _ | refine bl_drew ?_ | refine bl_drewN ?_ _))⟩
          case round =>
            clear hS hown
            obtain ⟨i, hi, rfl, hown, hS, hbz⟩ := hrel
            by_cases hlt3 : i < 2
            · have hl4 := sqTo_len k x i
              have H4 : Hid (sqTo k x (i + 1) = sqTo k x i ++ sqS k x (sd i)) := rfl
              have fS := hS.facts.2
              have f0 : wr.cell? ⟨g, i, none⟩ = some (.int .i64 (sd i)) := by
                rw [hS.cell]
                obtain rfl | rfl : i = 0 ∨ i = 1 := by omega
                · rfl
                · rfl
              have hsd : sd i = -1 ∨ sd i = 1 := by
                obtain rfl | rfl : i = 0 ∨ i = 1 := by omega
                · exact .inl rfl
                · exact .inr rfl
              obtain ⟨s, hs⟩ : ∃ s, sd i = s := ⟨_, rfl⟩
              rw [hs] at f0 hsd H4
              have hll : (a1 ++ sqTo k x i).length ≤ 1000000 := by rw [List.length_append]; omega
              have hit : ((i : Int) < 2) = True := by simp; omega
              clear hs
              by_cases hq : 0 ≤ x + s ∧ x + s ≤ 6
              · have hq1 : (0 ≤ x + s) = True := by simp; omega
                have hq2 : (x + s ≤ 6) = True := by simp; omega
                have H5 : Hid (a1 ++ sqTo k x (i + 1) = (a1 ++ sqTo k x i) ++ [(x, (k : Int), s)]) := by unfold Hid; rw [H4.out, sqS, if_pos hq, List.append_assoc]
                go_wp2_with (at_builtin; refine wpList_appB hown rfl _ _ rfl rfl rfl hll hbz.size ?_; intro v2 w2 hown2 hgr2)
                have hS2 := (hS.alloc (.cells #[.int .i64 x, .int .i64 k, .int .i64 s] 70)).grown hgr2 ((hown.alloc (.cells #[.int .i64 x, .int .i64 k, .int .i64 s] 70)).ne_blk (hS.alloc (.cells #[.int .i64 x, .int .i64 k, .int .i64 s] 70)) (by decide))
                have hbw2 := own_step hown hgr2 (by (repeat (first | exact bl_refl | assumption | (apply bl_then; assumption) | refine bl_alloc ?_ _ | refine bl_drew ?_ | refine bl_drewN ?_ _)))
                go_roundw
                case rel => exact ⟨i + 1, by omega, by go_num, by rw [H5.out]; exact hown2, hS2, hbw2⟩
                case measure => simp [intOf]; omega
              · have H5 : Hid (a1 ++ sqTo k x (i + 1) = a1 ++ sqTo k x i) := by unfold Hid; rw [H4.out, sqS, if_neg hq, List.append_nil]
                by_cases hq1 : 0 ≤ x + s
                · have hq2 : (x + s ≤ 6) = False := by simp; omega
                  have hq1' : (0 ≤ x + s) = True := by simp; omega
                  clear hq hq1
                  go_wp2
                  go_roundw
                  case rel => exact ⟨i + 1, by omega, by go_num, by rw [H5.out]; exact hown, hS, hbz⟩
                  case measure => simp [intOf]; omega
                · have hq1' : (0 ≤ x + s) = False := by simp; omega
                  clear hq hq1
                  go_wp2
                  go_roundw
                  case rel => exact ⟨i + 1, by omega, by go_num, by rw [H5.out]; exact hown, hS, hbz⟩
                  case measure => simp [intOf]; omega
            · have H5 : Hid (a0 ++ sqJ k (j + 1) = a1 ++ sqTo k x i) := by unfold Hid; rw [H3.out, show i = 2 by omega]
              go_wp2
              go_roundw
              case rel => exact ⟨j + 1, by omega, by rw [← HX.out]; go_num, by rw [H5.out]; exact hown, hbz⟩
              case measure => simp [intOf]; omega
        · have H5 : Hid (sqY (k + 1) = a0 ++ sqJ k j) := by unfold Hid; rw [H1.out, show j = n by omega]
          have hx6 : ((k : Int) % 2 + 2 * j ≤ 6) = False := by simp only [eq_iff_iff, iff_false]; intro h; exact hlt2 (hnj.1 h)
          clear hnj
          go_wp2
          go_roundw
          case rel => exact ⟨k + 1, by omega, by go_num, by rw [H5.out]; exact hown, hbw⟩
          case measure => simp [intOf]; omega
    · have HE : Hid (sqY k = squareL) := by unfold Hid squareL; rw [show k = 6 by omega]
      obtain ⟨A2, c2, rfl⟩ := hown.shape
      go_wp2
      go_ret
      exact ⟨_, rfl, by rw [HE.out] at hown; rw [HE.out]; exact hown, hbw⟩
end Go.Proofs.YthcnngoaijgnoaaGreat

/- What the program and the reference answer at the examples: computed. Conditions: none. -/
namespace Go.Proofs.YthcnngoaijgnoaaGreat
open Go.RowKit
set_option maxRecDepth 100000

def oneL : List Bar := [(3, 3, 1)]
def cutL : List Bar := tog meshL furtherL
def patL : List Bar := [(2, 2, 1), (4, 2, -1)]
def wL : List Knot := [(1, 3), (2, 2), (3, 3), (4, 2), (3, 1), (2, 2), (1, 1)]
theorem aw_1 : runE squareL oneL = 0 ∧ runL squareL oneL = [(4, 4), (3, 3)] := by decide
theorem aw_2 : twineE [(4, 4), (3, 3)] 200 30 = 0 ∧ twineR [(4, 4), (3, 3)] 200 30 = 260 := by decide
theorem aw_3 : noneE squareL oneL = 0 ∧ boundR squareL oneL = 0 := by decide
theorem aw_4 : tornE squareL meshL = 0 ∧ kindsL squareL meshL = [((3, 1), 2, 4), ((2, 2), 2, 3), ((4, 2), 2, 3), ((3, 3), 2, 4)] := by decide
theorem aw_5 : readyR squareL meshL = false := by decide
theorem aw_6 : leastE squareL meshL 2 = 0 ∧ leastL squareL meshL 2 = furtherL := by decide
theorem aw_7 : leastE squareL meshL 1 = 23 := by decide
theorem aw_8 : runE squareL cutL = 0 ∧ runL squareL cutL = wL := by decide
theorem aw_9 : provedE squareL cutL wL = 0 := by decide
theorem aw_10 : innerL squareL cutL = [] ∧ tornE squareL cutL = 0 := by decide
theorem aw_11 : patchE squareL cutL patL = 0 ∧ (wout cutL patL).length = 4 := by decide
theorem aw_12 : walkE squareL (wout cutL patL) (1, 3) = 0 ∧ walkR squareL (wout cutL patL) (1, 3) = [(1, 3), (2, 2)] := by decide
instance (a b : Bar) : Decidable (bltP a b) := inferInstanceAs (Decidable (barLt a.1 a.2.1 a.2.2 b.1 b.2.1 b.2.2 = true))
theorem srtB_eq {l r : List Bar} (hn : l.Nodup) (hs : r.Pairwise bltP) (h1 : ∀ x ∈ l, x ∈ r) (h2 : ∀ x ∈ r, x ∈ l) : srtB l = r :=
  sorted_unique bltP_irrefl (fun _ _ _ => bltP_trans) (srtB_sorted hn) hs fun x => by rw [srtB_mem]; exact ⟨h1 x, h2 x⟩
theorem aw_13 : restL squareL cutL wL = squareL := by
  unfold restL
  rw [if_pos aw_9]
  exact srtB_eq (by decide) (by decide) (by decide) (by decide)
section
variable {v u z : Value} (w : World)
theorem awc_run1 (hN : SlB w v squareL) (hD : SlB w u oneL) : Calls Tryz.prog 20 #[.agg #[v, u]] w (RKE w [(4, 4), (3, 3)] 0) := by
  have := prun_any _ _ w hN hD
  rwa [aw_1.1, aw_1.2] at this
theorem awc_twine (h : SlK w v [(4, 4), (3, 3)]) : Calls Tryz.prog 64 #[v, .int .i64 200, .int .i64 30] w (RV w (.tuple #[.int .i64 260, .int .i64 0])) := by
  have := ptwine_any _ 200 30 w h
  rwa [aw_2.1, aw_2.2] at this
theorem awc_bound (hN : SlB w v squareL) (hD : SlB w u oneL) : Calls Tryz.prog 53 #[.agg #[v, u]] w (RV w (.tuple #[.int .i64 0, .int .i64 0])) := by
  have := pbound_any _ _ w hN hD
  rwa [aw_3.1, aw_3.2] at this
theorem awc_kinds (hN : SlB w v squareL) (hD : SlB w u meshL) : Calls Tryz.prog 32 #[.agg #[v, u]] w (RLE w [((3, 1), 2, 4), ((2, 2), 2, 3), ((4, 2), 2, 3), ((3, 3), 2, 4)] 0) := by
  have := pkinds_any _ _ w hN hD
  rwa [aw_4.1, aw_4.2] at this
theorem awc_ready (hN : SlB w v squareL) (hD : SlB w u meshL) : Calls Tryz.prog 17 #[.agg #[v, u]] w (RV w (.tuple #[.bool false, .int .i64 0])) := by
  have := pready_any _ _ w hN hD
  rwa [aw_5, aw_4.1] at this
theorem awc_trim2 (hN : SlB w v squareL) (hD : SlB w u meshL) : Calls Tryz.prog 33 #[.agg #[v, u], .int .i64 2] w (RBE w furtherL 0) := by
  have := trim_any _ _ 2 w hN hD
  rwa [aw_6.1, aw_6.2] at this
theorem awc_trim1 (hN : SlB w v squareL) (hD : SlB w u meshL) : Calls Tryz.prog 33 #[.agg #[v, u], .int .i64 1] w (RBE w [] 23) := by
  have := trim_any _ _ 1 w hN hD
  have e : leastL squareL meshL 1 = [] := by unfold leastL; rw [aw_7]; rfl
  rwa [aw_7, e] at this
theorem awc_run2 (hN : SlB w v squareL) (hD : SlB w u cutL) : Calls Tryz.prog 20 #[.agg #[v, u]] w (RKE w wL 0) := by
  have := prun_any _ _ w hN hD
  rwa [aw_8.1, aw_8.2] at this
theorem awc_restore (hN : SlB w v squareL) (hD : SlB w u cutL) (h : SlK w z wL) : Calls Tryz.prog 63 #[.agg #[v, u], z] w (RBE w squareL 0) := by
  have := restore_any _ _ _ w hN hD h
  rwa [aw_13, aw_9] at this
theorem awc_check (hN : SlB w v squareL) (hD : SlB w u cutL) (h : SlK w z wL) : Calls Tryz.prog 60 #[.agg #[v, u], z] w (RV w (.int .i64 0)) := by
  have := checkRun_any _ _ _ w hN hD h
  rwa [aw_9] at this
theorem awc_inner (hN : SlB w v squareL) (hD : SlB w u cutL) : Calls Tryz.prog 34 #[.agg #[v, u]] w (RBE w [] 0) := by
  have := pinner_any _ _ w hN hD
  rwa [aw_10.1, aw_10.2] at this
theorem awc_seam (hN : SlB w v squareL) (hD : SlB w u cutL) (h : SlB w z patL) : Calls Tryz.prog 35 #[.agg #[v, u], z] w (RTE w squareL (wout cutL patL) 0) := by
  have := seam_any _ _ _ w hN hD h
  have e1 : seamN squareL cutL patL = squareL := by unfold seamN; rw [if_pos aw_11.1]
  have e2 : seamD squareL cutL patL = wout cutL patL := by unfold seamD; rw [if_pos aw_11.1]
  rwa [aw_11.1, e1, e2] at this
theorem awc_walk (hN : SlB w v squareL) (hD : SlB w u (wout cutL patL)) : Calls Tryz.prog 19 #[.agg #[v, u], .agg #[.int .i64 1, .int .i64 3]] w (RKE w [(1, 3), (2, 2)] 0) := by
  have := pwalk_any _ _ 1 3 w hN hD
  rwa [aw_12.1, aw_12.2] at this
end
end Go.Proofs.YthcnngoaijgnoaaGreat

/- The program answers the document's examples: the statement's 'awake', walked. Conditions: none. -/
namespace Go.Proofs.YthcnngoaijgnoaaGreat
open Go.RowKit Go.ChangeMaps
set_option maxHeartbeats 8000000
set_option maxRecDepth 100000

theorem bl_new {W w' : World} {o : Obj} (h : Chg [W.heap.size] (W.alloc o) w') : Below W.heap.size W w' := ((Chg.of_below (S := [W.heap.size]) (bl_alloc bl_refl o)).trans h).below (by simp) (Nat.le_refl _)
theorem own_newK (W : World) {base : Nat} (hb : base ≤ W.heap.size) (l : List Knot) (hl : l.length ≤ 1000) (cs : Array Value) (hc : cs = (l.flatMap kc).toArray) (n : Nat) (hn : n = l.length) : OwK base (W.alloc (.cells cs 26)) (.slice (some ⟨W.heap.size, 0, none⟩) n n) l := by
  subst hc hn
  have hs : ∀ l : List Knot, (l.flatMap kc).length = l.length * 2 := fun l => by
    induction l with
    | nil => rfl
    | cons a r ih => simp [kc, ih]; omega
  exact ⟨hs l, .inr ⟨W.heap.size, l.length, _, rfl, hb, heap_alloc_new W _, Nat.le_refl _, by simp [maxLen]; omega, by simpa using hs l, by rw [← hs l]; exact List.take_length⟩⟩
theorem sl_newL (W : World) (l : List LegT) (hl : l.length ≤ 1000) (cs : Array Value) (hc : cs = (l.flatMap lc).toArray) (n : Nat) (hn : n = l.length) : SlL (W.alloc (.cells cs 101)) (.slice (some ⟨W.heap.size, 0, none⟩) n n) l := by
  subst hc hn
  have hs : ∀ l : List LegT, (l.flatMap lc).length = l.length * 4 := fun l => by
    induction l with
    | nil => rfl
    | cons a r ih => simp [lc, ih]; omega
  have ho : OwM W.heap.size (W.alloc (.cells (l.flatMap lc).toArray 101)) (.slice (some ⟨W.heap.size, 0, none⟩) l.length l.length) l :=
    ⟨hs l, .inr ⟨W.heap.size, l.length, _, rfl, Nat.le_refl _, heap_alloc_new W _, Nat.le_refl _, by simp [maxLen]; omega, by simpa using hs l, by rw [← hs l]; exact List.take_length⟩⟩
  exact ho.rd lc_len
theorem sameL_self : ∀ l : List LegT, sameL l l = true
  | [] => rfl
  | a :: l => by
    unfold sameL
    rw [sameL_self l]
    simp [legE, legB, beqK]
theorem awake_any (w : World) : Calls Tryz.prog 16 #[] w (RV w (.bool true)) := by
  go_enter Tryz.func16, Tryz.ntmps16
  go_wp2_with fail
  refine (square_any _).mono ?_
  rintro e w1 ⟨v1, rfl, hS1, hb1⟩
  obtain ⟨A1, c1, rfl⟩ := hS1.shape
  have hO := (own_new w1 (Nat.le_refl _) oneL (by decide) #[.int .i64 3, .int .i64 3, .int .i64 1] rfl 1 rfl).rd bc_len
  have hB1 := Blk.new1 w1 (.cells #[.int .i64 3, .int .i64 3, .int .i64 1] 70) 32 #[.slice A1 squareL.length c1, .slice (some ⟨w1.heap.size, 0, none⟩) 1 1]
  have fhB1 := hB1.facts
  go_wp2_with fail
  refine (awc_run1 _ ((hS1.rd bc_len).below (by (repeat (first | exact bl_refl | assumption | (apply bl_then; assumption) | refine bl_alloc ?_ _ | refine bl_drew ?_ | refine bl_drewN ?_ _)))) (hO.below (by (repeat (first | exact bl_refl | assumption | (apply bl_then; assumption) | refine bl_alloc ?_ _ | refine bl_drew ?_ | refine bl_drewN ?_ _))))).mono ?_
  rintro e w3 ⟨v3, rfl, hR3, hb3⟩
  replace hB1 := hB1.below (show Below _ _ w3 by (repeat (first | exact bl_refl | assumption | (apply bl_then; assumption) | refine bl_alloc ?_ _ | refine bl_drew ?_ | refine bl_drewN ?_ _)))
  replace fhB1 := hB1.facts
  obtain ⟨A3, c3, rfl⟩ := hR3.shape
  go_wp2_with fail
  refine (awc_twine _ (hR3.rd kc_len)).mono ?_
  rintro e w4 ⟨rfl, hb4⟩
  replace hB1 := hB1.below (show Below _ _ w4 by (repeat (first | exact bl_refl | assumption | (apply bl_then; assumption) | refine bl_alloc ?_ _ | refine bl_drew ?_ | refine bl_drewN ?_ _)))
  replace fhB1 := hB1.facts
  go_wp2_with fail
  refine (awc_bound _ ((hS1.rd bc_len).below (by (repeat (first | exact bl_refl | assumption | (apply bl_then; assumption) | refine bl_alloc ?_ _ | refine bl_drew ?_ | refine bl_drewN ?_ _)))) (hO.below (by (repeat (first | exact bl_refl | assumption | (apply bl_then; assumption) | refine bl_alloc ?_ _ | refine bl_drew ?_ | refine bl_drewN ?_ _))))).mono ?_
  rintro e w5 ⟨rfl, hb5⟩
  replace hB1 := hB1.below (show Below _ _ w5 by (repeat (first | exact bl_refl | assumption | (apply bl_then; assumption) | refine bl_alloc ?_ _ | refine bl_drew ?_ | refine bl_drewN ?_ _)))
  replace fhB1 := hB1.facts
  have hQ5 := (own_newK w5 (Nat.le_refl _) [(4, 4), (3, 3)] (by decide) #[.int .i64 4, .int .i64 4, .int .i64 3, .int .i64 3] rfl 2 rfl).rd kc_len
  go_wp2_with fail
  refine (sameKnots_any [(4, 4), (3, 3)] [(4, 4), (3, 3)] _ ((hR3.rd kc_len).below (by (repeat (first | exact bl_refl | assumption | (apply bl_then; assumption) | refine bl_alloc ?_ _ | refine bl_drew ?_ | refine bl_drewN ?_ _)))) hQ5).mono ?_
  rintro e w6 ⟨rfl, hb6⟩
  have hbw6 : Below w.heap.size w w6 := by (repeat (first | exact bl_refl | assumption | (apply bl_then; assumption) | refine bl_alloc ?_ _ | refine bl_drew ?_ | refine bl_drewN ?_ _))
  clear hB1 fhB1 hQ5 hR3 hO hS1 hb6 hb5 hb4 hb3 hb1
  go_wp2_with fail
  refine (square_any _).mono ?_
  rintro e w7 ⟨v7, rfl, hS7, hb7⟩
  obtain ⟨A7, c7, rfl⟩ := hS7.shape
  go_wp2_with fail
  refine (mesh_any _).mono ?_
  rintro e w8 ⟨v8, rfl, hM8, hb8⟩
  obtain ⟨A8, c8, rfl⟩ := hM8.shape
  have hB8 := Blk.new w8 32 #[.slice A7 squareL.length c7, .slice A8 meshL.length c8]
  have fhB8 := hB8.facts
  go_wp2_with fail
  refine (awc_kinds _ ((hS7.rd bc_len).below (by (repeat (first | exact bl_refl | assumption | (apply bl_then; assumption) | refine bl_alloc ?_ _ | refine bl_drew ?_ | refine bl_drewN ?_ _)))) ((hM8.rd bc_len).below (by (repeat (first | exact bl_refl | assumption | (apply bl_then; assumption) | refine bl_alloc ?_ _ | refine bl_drew ?_ | refine bl_drewN ?_ _))))).mono ?_
  rintro e w9 ⟨v9, rfl, hK9, hb9⟩
  replace hB8 := hB8.below (show Below _ _ w9 by (repeat (first | exact bl_refl | assumption | (apply bl_then; assumption) | refine bl_alloc ?_ _ | refine bl_drew ?_ | refine bl_drewN ?_ _)))
  replace fhB8 := hB8.facts
  obtain ⟨A9, c9, rfl⟩ := hK9.shape
  go_wp2_with fail
  refine (awc_ready _ ((hS7.rd bc_len).below (by (repeat (first | exact bl_refl | assumption | (apply bl_then; assumption) | refine bl_alloc ?_ _ | refine bl_drew ?_ | refine bl_drewN ?_ _)))) ((hM8.rd bc_len).below (by (repeat (first | exact bl_refl | assumption | (apply bl_then; assumption) | refine bl_alloc ?_ _ | refine bl_drew ?_ | refine bl_drewN ?_ _))))).mono ?_
  rintro e w10 ⟨rfl, hb10⟩
  replace hB8 := hB8.below (show Below _ _ w10 by (repeat (first | exact bl_refl | assumption | (apply bl_then; assumption) | refine bl_alloc ?_ _ | refine bl_drew ?_ | refine bl_drewN ?_ _)))
  replace fhB8 := hB8.facts
  go_wp2_with fail
  refine (awc_trim2 _ ((hS7.rd bc_len).below (by (repeat (first | exact bl_refl | assumption | (apply bl_then; assumption) | refine bl_alloc ?_ _ | refine bl_drew ?_ | refine bl_drewN ?_ _)))) ((hM8.rd bc_len).below (by (repeat (first | exact bl_refl | assumption | (apply bl_then; assumption) | refine bl_alloc ?_ _ | refine bl_drew ?_ | refine bl_drewN ?_ _))))).mono ?_
  rintro e w11 ⟨v11, rfl, hL11, hb11⟩
  replace hB8 := hB8.below (show Below _ _ w11 by (repeat (first | exact bl_refl | assumption | (apply bl_then; assumption) | refine bl_alloc ?_ _ | refine bl_drew ?_ | refine bl_drewN ?_ _)))
  replace fhB8 := hB8.facts
  obtain ⟨A11, c11, rfl⟩ := hL11.shape
  go_wp2_with fail
  refine (awc_trim1 _ ((hS7.rd bc_len).below (by (repeat (first | exact bl_refl | assumption | (apply bl_then; assumption) | refine bl_alloc ?_ _ | refine bl_drew ?_ | refine bl_drewN ?_ _)))) ((hM8.rd bc_len).below (by (repeat (first | exact bl_refl | assumption | (apply bl_then; assumption) | refine bl_alloc ?_ _ | refine bl_drew ?_ | refine bl_drewN ?_ _))))).mono ?_
  rintro e w12 ⟨v12, rfl, _, hb12⟩
  replace hB8 := hB8.below (show Below _ _ w12 by (repeat (first | exact bl_refl | assumption | (apply bl_then; assumption) | refine bl_alloc ?_ _ | refine bl_drew ?_ | refine bl_drewN ?_ _)))
  replace fhB8 := hB8.facts
  go_wp2_with fail
  refine (llegs_any _ _ ((hK9.rd lc_len).below (by (repeat (first | exact bl_refl | assumption | (apply bl_then; assumption) | refine bl_alloc ?_ _ | refine bl_drew ?_ | refine bl_drewN ?_ _)))) (by decide)).mono ?_
  rintro e w13 ⟨v13, rfl, hG13, hb13⟩
  obtain ⟨A13, c13, rfl⟩ := hG13.shape
  have hZ13 := sl_newL w13 [((3, 1), 2, 4), ((2, 2), 2, 3), ((4, 2), 2, 3), ((3, 3), 2, 4)] (by decide) #[.int .i64 3, .int .i64 1, .int .i64 2, kstr 4, .int .i64 2, .int .i64 2, .int .i64 2, kstr 3, .int .i64 4, .int .i64 2, .int .i64 2, kstr 3, .int .i64 3, .int .i64 3, .int .i64 2, kstr 4] rfl 4 rfl
  go_wp2_with fail
  refine (sameLegs_any _ _ _ ((hG13.rd lc_len).below (by (repeat (first | exact bl_refl | assumption | (apply bl_then; assumption) | refine bl_alloc ?_ _ | refine bl_drew ?_ | refine bl_drewN ?_ _)))) hZ13).mono ?_
  rintro e w14 ⟨rfl, hb14⟩
  rw [sameL_self]
  go_wp2_with fail
  refine (further_any _).mono ?_
  rintro e w15 ⟨v15, rfl, hF15, hb15⟩
  obtain ⟨A15, c15, rfl⟩ := hF15.shape
  go_wp2_with fail
  refine (sameBars_any furtherL furtherL _ ((hL11.rd bc_len).below (by (repeat (first | exact bl_refl | assumption | (apply bl_then; assumption) | refine bl_alloc ?_ _ | refine bl_drew ?_ | refine bl_drewN ?_ _)))) (hF15.rd bc_len)).mono ?_
  rintro e w16 ⟨rfl, hb16⟩
  have hbw16 : Below w.heap.size w w16 := by (repeat (first | exact bl_refl | assumption | (apply bl_then; assumption) | refine bl_alloc ?_ _ | refine bl_drew ?_ | refine bl_drewN ?_ _))
  clear hB8 fhB8 hS7 hM8 hK9 hL11 hG13 hF15 hZ13 hb7 hb8 hb9 hb10 hb11 hb12 hb13 hb14 hb15 hb16 hbw6
  go_wp2_with fail
  refine (square_any _).mono ?_
  rintro e w17 ⟨v17, rfl, hS17, hb17⟩
  obtain ⟨A17, c17, rfl⟩ := hS17.shape
  go_wp2_with fail
  refine (mesh_any _).mono ?_
  rintro e w18 ⟨v18, rfl, hM18, hb18⟩
  go_wp2_with fail
  refine (further_any _).mono ?_
  rintro e w19 ⟨v19, rfl, hF19, hb19⟩
  go_wp2_with fail
  refine (rtog_any meshL furtherL _ ((hM18.rd bc_len).below (by (repeat (first | exact bl_refl | assumption | (apply bl_then; assumption) | refine bl_alloc ?_ _ | refine bl_drew ?_ | refine bl_drewN ?_ _)))) (hF19.rd bc_len) (by decide)).mono ?_
  rintro e w20 ⟨v20, rfl, hT20, hb20⟩
  obtain ⟨A20, c20, rfl⟩ := hT20.shape
  have hT20' : SlB w20 (.slice A20 (tog meshL furtherL).length c20) cutL := hT20.rd bc_len
  have hB20 := Blk.new w20 32 #[.slice A17 squareL.length c17, .slice A20 (tog meshL furtherL).length c20]
  have fhB20 := hB20.facts
  go_wp2_with fail
  refine (awc_run2 _ ((hS17.rd bc_len).below (by (repeat (first | exact bl_refl | assumption | (apply bl_then; assumption) | refine bl_alloc ?_ _ | refine bl_drew ?_ | refine bl_drewN ?_ _)))) (hT20'.below (by (repeat (first | exact bl_refl | assumption | (apply bl_then; assumption) | refine bl_alloc ?_ _ | refine bl_drew ?_ | refine bl_drewN ?_ _))))).mono ?_
  rintro e w21 ⟨v21, rfl, hR21, hb21⟩
  replace hB20 := hB20.below (show Below _ _ w21 by (repeat (first | exact bl_refl | assumption | (apply bl_then; assumption) | refine bl_alloc ?_ _ | refine bl_drew ?_ | refine bl_drewN ?_ _)))
  replace fhB20 := hB20.facts
  obtain ⟨A21, c21, rfl⟩ := hR21.shape
  go_wp2_with fail
  refine (awc_restore _ ((hS17.rd bc_len).below (by (repeat (first | exact bl_refl | assumption | (apply bl_then; assumption) | refine bl_alloc ?_ _ | refine bl_drew ?_ | refine bl_drewN ?_ _)))) (hT20'.below (by (repeat (first | exact bl_refl | assumption | (apply bl_then; assumption) | refine bl_alloc ?_ _ | refine bl_drew ?_ | refine bl_drewN ?_ _)))) (hR21.rd kc_len)).mono ?_
  rintro e w22 ⟨v22, rfl, hW22, hb22⟩
  replace hB20 := hB20.below (show Below _ _ w22 by (repeat (first | exact bl_refl | assumption | (apply bl_then; assumption) | refine bl_alloc ?_ _ | refine bl_drew ?_ | refine bl_drewN ?_ _)))
  replace fhB20 := hB20.facts
  obtain ⟨A22, c22, rfl⟩ := hW22.shape
  go_wp2_with fail
  refine (awc_inner _ ((hS17.rd bc_len).below (by (repeat (first | exact bl_refl | assumption | (apply bl_then; assumption) | refine bl_alloc ?_ _ | refine bl_drew ?_ | refine bl_drewN ?_ _)))) (hT20'.below (by (repeat (first | exact bl_refl | assumption | (apply bl_then; assumption) | refine bl_alloc ?_ _ | refine bl_drew ?_ | refine bl_drewN ?_ _))))).mono ?_
  rintro e w23 ⟨v23, rfl, hI23, hb23⟩
  replace hB20 := hB20.below (show Below _ _ w23 by (repeat (first | exact bl_refl | assumption | (apply bl_then; assumption) | refine bl_alloc ?_ _ | refine bl_drew ?_ | refine bl_drewN ?_ _)))
  replace fhB20 := hB20.facts
  obtain ⟨A23, c23, rfl⟩ := hI23.shape
  have hP23 := (own_new w23 (Nat.le_refl _) patL (by decide) #[.int .i64 2, .int .i64 2, .int .i64 1, .int .i64 4, .int .i64 2, .int .i64 (-1)] rfl 2 rfl).rd bc_len
  go_wp2_with fail
  refine (awc_seam _ ((hS17.rd bc_len).below (by (repeat (first | exact bl_refl | assumption | (apply bl_then; assumption) | refine bl_alloc ?_ _ | refine bl_drew ?_ | refine bl_drewN ?_ _)))) (hT20'.below (by (repeat (first | exact bl_refl | assumption | (apply bl_then; assumption) | refine bl_alloc ?_ _ | refine bl_drew ?_ | refine bl_drewN ?_ _)))) hP23).mono ?_
  rintro e w24 ⟨v24, u24, rfl, hN24, hD24, _, hb24⟩
  replace hB20 := hB20.below (show Below _ _ w24 by (repeat (first | exact bl_refl | assumption | (apply bl_then; assumption) | refine bl_alloc ?_ _ | refine bl_drew ?_ | refine bl_drewN ?_ _)))
  replace fhB20 := hB20.facts
  obtain ⟨A24, c24, rfl⟩ := hN24.shape
  obtain ⟨A25, c25, rfl⟩ := hD24.shape
  have hB24 := Blk.new w24 32 #[.slice A24 squareL.length c24, .slice A25 (wout cutL patL).length c25]
  have fhB24 := hB24.facts
  go_wp2_with fail
  refine (awc_walk _ ((hN24.rd bc_len).below (by (repeat (first | exact bl_refl | assumption | (apply bl_then; assumption) | refine bl_alloc ?_ _ | refine bl_drew ?_ | refine bl_drewN ?_ _)))) ((hD24.rd bc_len).below (by (repeat (first | exact bl_refl | assumption | (apply bl_then; assumption) | refine bl_alloc ?_ _ | refine bl_drew ?_ | refine bl_drewN ?_ _))))).mono ?_
  rintro e w25 ⟨v25, rfl, hV25, hb25⟩
  replace hB20 := hB20.below (show Below _ _ w25 by (repeat (first | exact bl_refl | assumption | (apply bl_then; assumption) | refine bl_alloc ?_ _ | refine bl_drew ?_ | refine bl_drewN ?_ _)))
  replace fhB20 := hB20.facts
  replace hB24 := hB24.below (show Below _ _ w25 by (repeat (first | exact bl_refl | assumption | (apply bl_then; assumption) | refine bl_alloc ?_ _ | refine bl_drew ?_ | refine bl_drewN ?_ _)))
  replace fhB24 := hB24.facts
  obtain ⟨A26, c26, rfl⟩ := hV25.shape
  have hQ25 := (own_newK w25 (Nat.le_refl _) wL (by decide) #[.int .i64 1, .int .i64 3, .int .i64 2, .int .i64 2, .int .i64 3, .int .i64 3, .int .i64 4, .int .i64 2, .int .i64 3, .int .i64 1, .int .i64 2, .int .i64 2, .int .i64 1, .int .i64 1] rfl 7 rfl).rd kc_len
  go_wp2_with fail
  refine (sameKnots_any wL wL _ ((hR21.rd kc_len).below (by (repeat (first | exact bl_refl | assumption | (apply bl_then; assumption) | refine bl_alloc ?_ _ | refine bl_drew ?_ | refine bl_drewN ?_ _)))) hQ25).mono ?_
  rintro e w26 ⟨rfl, hb26⟩
  replace hB20 := hB20.below (show Below _ _ w26 by (repeat (first | exact bl_refl | assumption | (apply bl_then; assumption) | refine bl_alloc ?_ _ | refine bl_drew ?_ | refine bl_drewN ?_ _)))
  replace fhB20 := hB20.facts
  replace hB24 := hB24.below (show Below _ _ w26 by (repeat (first | exact bl_refl | assumption | (apply bl_then; assumption) | refine bl_alloc ?_ _ | refine bl_drew ?_ | refine bl_drewN ?_ _)))
  replace fhB24 := hB24.facts
  go_wp2_with fail
  refine (awc_check _ ((hS17.rd bc_len).below (by (repeat (first | exact bl_refl | assumption | (apply bl_then; assumption) | refine bl_alloc ?_ _ | refine bl_drew ?_ | refine bl_drewN ?_ _)))) (hT20'.below (by (repeat (first | exact bl_refl | assumption | (apply bl_then; assumption) | refine bl_alloc ?_ _ | refine bl_drew ?_ | refine bl_drewN ?_ _)))) ((hR21.rd kc_len).below (by (repeat (first | exact bl_refl | assumption | (apply bl_then; assumption) | refine bl_alloc ?_ _ | refine bl_drew ?_ | refine bl_drewN ?_ _))))).mono ?_
  rintro e w27 ⟨rfl, hb27⟩
  replace hB20 := hB20.below (show Below _ _ w27 by (repeat (first | exact bl_refl | assumption | (apply bl_then; assumption) | refine bl_alloc ?_ _ | refine bl_drew ?_ | refine bl_drewN ?_ _)))
  replace fhB20 := hB20.facts
  replace hB24 := hB24.below (show Below _ _ w27 by (repeat (first | exact bl_refl | assumption | (apply bl_then; assumption) | refine bl_alloc ?_ _ | refine bl_drew ?_ | refine bl_drewN ?_ _)))
  replace fhB24 := hB24.facts
  go_wp2_with fail
  refine (square_any _).mono ?_
  rintro e w28 ⟨v28, rfl, hS28, hb28⟩
  replace hB20 := hB20.below (show Below _ _ w28 by (repeat (first | exact bl_refl | assumption | (apply bl_then; assumption) | refine bl_alloc ?_ _ | refine bl_drew ?_ | refine bl_drewN ?_ _)))
  replace fhB20 := hB20.facts
  replace hB24 := hB24.below (show Below _ _ w28 by (repeat (first | exact bl_refl | assumption | (apply bl_then; assumption) | refine bl_alloc ?_ _ | refine bl_drew ?_ | refine bl_drewN ?_ _)))
  replace fhB24 := hB24.facts
  obtain ⟨A28, c28, rfl⟩ := hS28.shape
  go_wp2_with fail
  refine (sameBars_any squareL squareL _ ((hW22.rd bc_len).below (by (repeat (first | exact bl_refl | assumption | (apply bl_then; assumption) | refine bl_alloc ?_ _ | refine bl_drew ?_ | refine bl_drewN ?_ _)))) (hS28.rd bc_len)).mono ?_
  rintro e w29 ⟨rfl, hb29⟩
  replace hB20 := hB20.below (show Below _ _ w29 by (repeat (first | exact bl_refl | assumption | (apply bl_then; assumption) | refine bl_alloc ?_ _ | refine bl_drew ?_ | refine bl_drewN ?_ _)))
  replace fhB20 := hB20.facts
  replace hB24 := hB24.below (show Below _ _ w29 by (repeat (first | exact bl_refl | assumption | (apply bl_then; assumption) | refine bl_alloc ?_ _ | refine bl_drew ?_ | refine bl_drewN ?_ _)))
  replace fhB24 := hB24.facts
  have hl4 : (wout cutL patL).length = 4 := aw_11.2
  have hQ29 := (own_newK w29 (Nat.le_refl _) [(1, 3), (2, 2)] (by decide) #[.int .i64 1, .int .i64 3, .int .i64 2, .int .i64 2] rfl 2 rfl).rd kc_len
  go_wp2_with fail
  refine (sameKnots_any [(1, 3), (2, 2)] [(1, 3), (2, 2)] _ ((hV25.rd kc_len).below (by (repeat (first | exact bl_refl | assumption | (apply bl_then; assumption) | refine bl_alloc ?_ _ | refine bl_drew ?_ | refine bl_drewN ?_ _)))) hQ29).mono ?_
  rintro e w30 ⟨rfl, hb30⟩
  go_wp2
  go_ret
  exact ⟨rfl, by (repeat (first | exact bl_refl | assumption | (apply bl_then; assumption) | refine bl_alloc ?_ _ | refine bl_drew ?_ | refine bl_drewN ?_ _))⟩
end Go.Proofs.YthcnngoaijgnoaaGreat

/- The statements' arguments opened: a slice of bars or of knots reads as a list; a torn net as two. Conditions: none. -/
namespace Go.Proofs.YthcnngoaijgnoaaGreat
open Go.ChangeShapes Go.WideShapes Go.ChangeAt Go.RowKit Go.Deep Go.Joins

set_option maxRecDepth 100000
set_option maxHeartbeats 1000000
theorem lawOwn : ownKnob Tryz.prog.godebug = none := by kernel_rfl
theorem lawLaid : laidOutB Tryz.prog = true := by kernel_rfl
section
variable {H : Type} {enc' : TypeId × Value → H} {P : Program} {w : World} {base : Nat} {spare : Nat → Bool} {held : Bool}
theorem sl_open {α : Type} [Inhabited α] {en : α → List Value} {sz : Nat} {t e : TypeId} {fuel : Nat} {c : Value} {x : DataW H × List MemPlace} (ht : P.underlying t = some (.slice e)) (hC : P.cellsOf e = sz) (hpos : 0 < sz)
    (hel : ∀ fuel cs y, DataW.trod enc' P w base spare held fuel e cs = some y → ∃ a : α, cs = en a) (h : DataW.trod enc' P w base spare held fuel t [c] = some x) : ∃ l : List α, Sl en sz w c l := by
  rcases open_slice ht h with ⟨hcs, _⟩ | ⟨a, len, cap, m, n, D, Pl, hcs, hb, hl, hm, hmm, _, hx⟩
  · obtain rfl : c = .slice none 0 0 := by simpa using hcs
    exact ⟨[], Sl.nil_⟩
  · obtain rfl : c = .slice (some a) len cap := by simpa using hcs
    have hlm : len ≤ m := by rw [hmm]; split <;> omega
    have each : ∀ i, i < len → ∃ z : α, (en z).length = sz ∧ ∀ j, j < sz → w.cell? (a.add (i * sz + j)) = (en z)[j]? := fun i hi => by
      obtain ⟨cs', h1, h2⟩ := hx i (by omega)
      rw [hC] at h1
      obtain ⟨z, rfl⟩ := hel _ _ _ h2
      obtain ⟨_, hlen, hcell⟩ := World.cells?_some h1
      exact ⟨z, hlen, fun j hj => by rw [← add_add]; exact hcell j hj⟩
    obtain ⟨f, hf⟩ := choose_lt each
    refine ⟨(List.range len).map f, some a, cap, by simp, by simpa using hl, hm, fun i x hx => ?_⟩
    rw [List.getElem?_map] at hx
    have hi : i < len := by
      by_cases hi : i < len
      · exact hi
      · rw [List.getElem?_eq_none (by simpa using hi)] at hx; cases hx
    rw [List.getElem?_range hi] at hx
    obtain rfl : f i = x := by simpa using hx
    obtain ⟨hfl, hfc⟩ := hf i hi
    have hc0 := hfc 0 hpos
    have hl0 : 0 < (en (f i)).length := by omega
    rw [List.getElem?_eq_getElem hl0] at hc0
    obtain ⟨b, off, spot⟩ := a
    have hspot : spot = none := by
      have := World.cell?_spot hc0
      unfold Addr.add at this
      split at this
      · exact this
      · rename_i hne
        have h0 := hf 0 (by omega)
        have := h0.2 0 hpos
        rw [List.getElem?_eq_getElem (by omega)] at this
        have := World.cell?_spot this
        simpa [Addr.add] using this
    subst hspot
    have hadd : ∀ n, (⟨b, off, none⟩ : Addr).add n = ⟨b, off + n, none⟩ := fun n => by
      unfold Addr.add
      split
      · rename_i h0; rw [h0]; rfl
      · rfl
    refine ⟨b, off, rfl, ?_, fun j u hu => ?_⟩
    · rw [hadd] at hc0
      unfold World.cell? at hc0
      by_cases hbl : b < w.heap.size
      · exact hbl
      · simp [Array.getElem?_eq_none (show w.heap.size ≤ b by omega)] at hc0
    · have hj : j < sz := by rw [← hfl]; exact (List.getElem?_eq_some_iff.1 hu).1
      have := hfc j hj
      rw [hadd, hu, ← Nat.add_assoc] at this
      exact this
end
section
variable {H : Type} {enc' : TypeId × Value → H} {w : World} {base : Nat} {spare : Nat → Bool} {held : Bool}
theorem bar_trod {fuel : Nat} {cs : List Value} {y : DataW H × List MemPlace} (h : DataW.trod enc' Tryz.prog w base spare held fuel 70 cs = some y) : ∃ a : Bar, cs = bc a := by
  obtain ⟨y0, y1, y2, n, _, hl, h0, h1, h2⟩ := trod_struct3 Tryz.underlying70 h
  obtain ⟨a, e0, _⟩ := DataW.trod_int Tryz.underlying3 h0
  obtain ⟨b, e1, _⟩ := DataW.trod_int Tryz.underlying3 h1
  obtain ⟨c, e2, _⟩ := DataW.trod_int Tryz.underlying3 h2
  have hC : Tryz.prog.cellsOf 70 = 3 := by kernel_rfl
  have hI : Tryz.prog.cellsOf 3 = 1 := by kernel_rfl
  rw [hC] at hl
  simp only [hI] at e0 e1 e2
  match cs, hl with
  | [p, q, r], _ =>
    simp at e0 e1 e2
    subst e0 e1 e2
    exact ⟨(a, b, c), rfl⟩
theorem knot_trod {fuel : Nat} {cs : List Value} {y : DataW H × List MemPlace} (h : DataW.trod enc' Tryz.prog w base spare held fuel 26 cs = some y) : ∃ a : Knot, cs = kc a := by
  obtain ⟨y0, y1, n, _, hl, h0, h1⟩ := trod_struct2 Tryz.underlying26 h
  obtain ⟨a, e0, _⟩ := DataW.trod_int Tryz.underlying3 h0
  obtain ⟨b, e1, _⟩ := DataW.trod_int Tryz.underlying3 h1
  have hC : Tryz.prog.cellsOf 26 = 2 := by kernel_rfl
  have hI : Tryz.prog.cellsOf 3 = 1 := by kernel_rfl
  rw [hC] at hl
  simp only [hI] at e0 e1
  match cs, hl with
  | [p, q], _ =>
    simp at e0 e1
    subst e0 e1
    exact ⟨(a, b), rfl⟩
theorem bars_open {fuel : Nat} {c : Value} {x : DataW H × List MemPlace} (h : DataW.trod enc' Tryz.prog w base spare held fuel 22 [c] = some x) : ∃ l : List Bar, SlB w c l :=
  sl_open Tryz.underlying22 (by kernel_rfl) (by decide) (fun _ _ _ h => bar_trod h) h
theorem torn_open {r : Reach} {b0 : Nat} {v : Value} {d : DataW H} {p : List MemPlace} (hv : Value.okWide Tryz.prog w r b0 24 v) (h : DataW.Trod enc' Tryz.prog w base spare held 24 v d p) :
    ∃ a b N D, v = .agg #[a, b] ∧ SlB w a N ∧ SlB w b D := by
  obtain ⟨a, b, y0, y1, n, rfl, _, _, h0, h1⟩ := open_agg2 Tryz.underlying24 (by kernel_rfl) (by kernel_rfl) hv h
  obtain ⟨N, hN⟩ := bars_open h0
  obtain ⟨D, hD⟩ := bars_open h1
  exact ⟨a, b, N, D, rfl, hN, hD⟩
theorem knot_open {r : Reach} {b0 : Nat} {v : Value} {d : DataW H} {p : List MemPlace} (hv : Value.okWide Tryz.prog w r b0 26 v) (h : DataW.Trod enc' Tryz.prog w base spare held 26 v d p) :
    ∃ x y : Int, v = .agg #[.int .i64 x, .int .i64 y] := by
  obtain ⟨a, b, y0, y1, n, rfl, _, _, h0, h1⟩ := open_agg2 Tryz.underlying26 (by kernel_rfl) (by kernel_rfl) hv h
  obtain ⟨x, e0, _⟩ := DataW.trod_int Tryz.underlying3 h0
  obtain ⟨y, e1, _⟩ := DataW.trod_int Tryz.underlying3 h1
  simp at e0 e1
  subst e0 e1
  exact ⟨x, y, rfl⟩
end
end Go.Proofs.YthcnngoaijgnoaaGreat

/- The helpers of chapter 9's great statements, walked. Conditions: bounds. -/
import Derived.Test.YtpompeancmonbaaGreatE08
import Derived.Test.YtpompeancmonbaaGreatE17
import Derived.Test.YtpompeancmonbaaGreatE23
import Derived.Test.YtpompeancmonbaaGreatE22
import Derived.Test.YtpompeancmonbaaGreatE24
import Derived.Test.YtpompeancmonbaaGreatE26
import Derived.Test.YtpompeancmonbaaGreatE14
import Derived.Test.YtpompeancmonbaaGreatE43
import Derived.Test.YtpompeancmonbaaGreatE41
import Derived.Test.YtpompeancmonbaaGreatE21
import Derived.Test.YtpompeancmonbaaGreatE27
import Derived.Test.YtpompeancmonbaaGreatRows
import Derived.WalkKit
import Derived.ProofKit
import Derived.OpenShut
import Derived.ShutString
import Derived.ChangeOld
import Derived.Below
import Derived.Lib.SmallJoins
import Derived.Deep.Slices
import Derived.Deep.Strs
import Derived.SizedLaws
namespace Go.Proofs.YtpompeancmonbaaGreat
open Go.RowKit Go.ChangeMaps
set_option maxHeartbeats 4000000
set_option maxRecDepth 100000

attribute [local go_sem] Oper.semAt_some
/-! ## the helpers -/
theorem sbars_any {v : Value} (l : List Bar) (w : World) (h : SlB w v l) (hlen : l.length ≤ 5864062014805) : Calls Tryz.prog 8 #[v] w (RB w l) := by
  go_enter Tryz.func8, Tryz.ntmps8
  go_wp2_with (at_builtin; refine wpList_app rfl bar_elem bc_len bc_one _ _ rfl w.heap.size (.slice (some ⟨w.heap.size, 0, none⟩) 0 0) _ [] l rfl rfl (Own.empty bc 3 w _) (h.alloc _) (by simp [maxLen]; omega) (by simp; omega) (by simp) ?_; intro v2 w2 hown2 hgr2)
  have hb2 : Below w.heap.size w w2 := bl_grown hgr2 (bl_alloc bl_refl _) fun k hk => by simp [Value.ownBlock] at hk; omega
  go_ret
  exact ⟨_, rfl, by simpa using hown2, hb2⟩
def tokB (N D : List Bar) (n : Int) : Bool := (decide ((N.length : Int) ≤ n) && decide ((D.length : Int) ≤ n)) && decide (tornE N D = 0)
def RTO (w : World) (N D : List Bar) (b : Bool) (e : Ending) (w' : World) : Prop := ∃ A c A' c', e = .returned (.tuple #[.agg #[.slice A N.length c, .slice A' D.length c'], .bool b]) ∧ SlB w' (.slice A N.length c) N ∧ SlB w' (.slice A' D.length c') D ∧ Below w.heap.size w w'
theorem storn_any {v u : Value} (N D : List Bar) (n : Int) (w : World) (hN : SlB w v N) (hD : SlB w u D) (lN : N.length ≤ 5864062014805) (lD : D.length ≤ 5864062014805) : Calls Tryz.prog 5 #[.agg #[v, u], .int .i64 n] w (RTO w N D (tokB N D n)) := by
  obtain ⟨AN, cN, rfl, hN1, hN2, hN3⟩ := id hN
  obtain ⟨AD, cD, rfl, hD1, hD2, hD3⟩ := id hD
  have hB := (Blk.new w 24 #[.slice AN N.length cN, .slice AD D.length cD]).alloc (.cells #[.slice none 0 0, .slice none 0 0] 27)
  have hR := Blk.new1 w (.cells #[.slice AN N.length cN, .slice AD D.length cD] 24) 27 #[.slice none 0 0, .slice none 0 0]
  go_enter Tryz.func5, Tryz.ntmps5
  go_upto_region 1 with fail
  obtain ⟨w0, hw0⟩ : ∃ X, (w.alloc (.cells #[.slice AN N.length cN, .slice AD D.length cD] 24)).alloc (.cells #[.slice none 0 0, .slice none 0 0] 27) = X := ⟨_, rfl⟩
  have hsz : w0.heap.size = w.heap.size + 2 := by rw [← hw0]; simp
  have hb0 : Below w.heap.size w w0 := by rw [← hw0]; exact bl_alloc (bl_alloc bl_refl _) _
  rw [hw0] at hB hR ⊢
  have fhB := hB.facts
  clear hw0
  refine wp_region_ord (w.heap.size + 1) [0, 1, 3, 4, 7, 8] [(2, false), (5, false), (6, true), (9, false), (10, false), (11, false), (12, false), (13, true), (14, true), (15, false)] [16] (by kernel_rfl) (by kernel_rfl) (fun d _ _ _ _ h => by cases d <;> exact h) ?_
  simp only [List.map_cons, List.map_nil, List.getD_cons_zero, List.getD_cons_succ]
  repeat (go_big_quiet_step (fail))
  refine wpQuiet_nil ?_
  refine wpMid_run rfl (fun K hK => ?_)
  go_simp
  refine (sbars_any N _ ((hN.below hb0).drew) lN).mono ?_
  rintro e w1 ⟨v1, rfl, hO1, hb1⟩
  have h01 : Below w0.heap.size w0 w1 := bl_then hb1 (bl_drew bl_refl)
  refine hK _ _ (h01.mono (by omega)) ?_
  clear hK K
  refine wpMid_run rfl (fun K hK => ?_)
  go_simp
  refine (sbars_any D _ ((hD.below hb0).below h01) lD).mono ?_
  rintro e w2 ⟨v2, rfl, hO2, hb2⟩
  have h02 : Below w0.heap.size w0 w2 := bl_then hb2 h01
  refine hK _ _ (h02.mono (by omega)) ?_
  clear hK K
  obtain ⟨A1, c1, rfl⟩ := hO1.shape
  obtain ⟨A2, c2, rfl⟩ := hO2.shape
  refine wpMid_take rfl ?_
  intro K hK
  go_big_quiet_op
  go_big_quiet_on
  refine wpMid_run rfl (fun K hK => ?_)
  go_simp
  refine (short_any N D n _ ((hN.below hb0).below h02) ((hD.below hb0).below h02)).mono ?_
  rintro e w3 ⟨rfl, hb3⟩
  have h03 : Below w0.heap.size w0 w3 := bl_then hb3 h02
  refine hK _ _ (h03.mono (by omega)) ?_
  clear hK K
  obtain ⟨sb, hsb⟩ : ∃ b, (decide ((N.length : Int) ≤ n) && decide ((D.length : Int) ≤ n)) = b := ⟨_, rfl⟩
  rw [hsb]
  refine wpMid_run rfl (fun K hK => ?_)
  go_simp
  refine hK _ _ (h03.mono (by omega)) ?_
  clear hK K
  have fB3 := (hB.below h03).facts
  have hR1 := (hO1.rd bc_len).below (show Below w1.heap.size w1 w3 from bl_then hb3 hb2)
  have hR2 := (hO2.rd bc_len).below hb3
  cases sb
  · have HT : Hid (tokB N D n = false) := by unfold Hid tokB; rw [hsb]; rfl
    refine wpMid_skipF (by kernel_rfl) ?_
    intro K hK
    simp only [Act.put, List.setIfInBounds_toArray, List.set_cons_zero, List.set_cons_succ]
    refine hK _ ?_
    clear hK K
    refine wpMid_skipF (by kernel_rfl) ?_
    intro K hK
    simp only [Act.put, List.setIfInBounds_toArray, List.set_cons_zero, List.set_cons_succ]
    refine hK _ ?_
    clear hK K
    refine wpMid_skipT (by kernel_rfl) ?_
    intro K hK
    simp only [Act.put, List.setIfInBounds_toArray, List.set_cons_zero, List.set_cons_succ]
    refine hK _ ?_
    clear hK K
    refine wpMid_take rfl ?_
    intro K hK
    go_big_quiet_op
    go_big_quiet_on
    refine wpMid_run rfl (fun K hK => ?_)
    refine op_store_blk (hR.below h03) _ _ _ rfl rfl rfl rfl (by kernel_rfl) (by kernel_rfl) ?_
    intro w5 hR5 hc5
    have hb5 : Below (w.heap.size + 1) w0 w5 := ((Chg.of_below (S := [w.heap.size + 1]) h03).trans hc5).below (by simp) (by omega)
    refine hK _ _ hb5 ?_
    clear hK K
    refine wpMid_nil ?_
    have fR5 := hR5.facts
    go_wp2
    refine bodyPost_ret (v := .tuple #[.agg #[.slice A1 N.length c1, .slice A2 D.length c2], .bool false]) (by simp [results, Tryz.results5, go_sem, fR5]) rfl ?_
    exact ⟨A1, c1, A2, c2, by rw [HT.out], ((hO1.below (show Below w1.heap.size w1 w3 from bl_then hb3 hb2)).chg hc5 (by simp; omega)).rd bc_len, ((hO2.below (show Below w2.heap.size w2 w3 from hb3)).chg hc5 (by simp; have := h01.size; omega)).rd bc_len, hb0.trans (hb5.mono (by omega))⟩
  · obtain ⟨E, hE⟩ : ∃ E, tornE N D = E := ⟨_, rfl⟩
    have HT : Hid (tokB N D n = (E == 0)) := by unfold Hid tokB; rw [hsb, hE]; rfl
    refine wpMid_run rfl (fun K hK => ?_)
    go_simp
    refine hK _ _ (h03.mono (by omega)) ?_
    clear hK K
    refine wpMid_run rfl (fun K hK => ?_)
    go_simp
    refine (rtorn_any N D _ ((hN.below hb0).below h03) ((hD.below hb0).below h03)).mono ?_
    rintro e w4 ⟨rfl, hb4⟩
    rw [hE]
    have h04 : Below w0.heap.size w0 w4 := bl_then hb4 h03
    refine hK _ _ (h04.mono (by omega)) ?_
    clear hK K
    refine wpMid_take rfl ?_
    intro K hK
    go_big_quiet_op
    go_big_quiet_on
    refine wpMid_take rfl ?_
    intro K hK
    go_big_quiet_op
    go_big_quiet_on
    refine wpMid_run rfl (fun K hK => ?_)
    refine op_store_blk (hR.below h04) _ _ _ rfl rfl rfl rfl (by kernel_rfl) (by kernel_rfl) ?_
    intro w5 hR5 hc5
    have hb5 : Below (w.heap.size + 1) w0 w5 := ((Chg.of_below (S := [w.heap.size + 1]) h04).trans hc5).below (by simp) (by omega)
    refine hK _ _ hb5 ?_
    clear hK K
    refine wpMid_nil ?_
    have fR5 := hR5.facts
    go_wp2
    refine bodyPost_ret (v := .tuple #[.agg #[.slice A1 N.length c1, .slice A2 D.length c2], .bool (E == 0)]) (by simp [results, Tryz.results5, go_sem, fR5]) rfl ?_
    exact ⟨A1, c1, A2, c2, by rw [HT.out], ((hO1.below (show Below w1.heap.size w1 w4 from bl_then hb4 (bl_then hb3 hb2))).chg hc5 (by simp; omega)).rd bc_len, ((hO2.below (show Below w2.heap.size w2 w4 from bl_then hb4 hb3)).chg hc5 (by simp; have := h01.size; omega)).rd bc_len, hb0.trans (hb5.mono (by omega))⟩
def dB : List Bar := [(2, 0, -1), (2, 0, 1)]
def rK : List Knot := [(3, 1), (2, 0), (1, 1)]
def shB8 : List Bar := [(0, 0, 1), (2, 0, -1), (2, 0, 1), (4, 0, -1), (1, 1, -1), (1, 1, 1), (3, 1, -1), (3, 1, 1)]
theorem sh1 : sheetE 0 0 2 2 = 0 := by kernel_rfl
theorem sh2 : sheetL 0 0 2 2 = shB8 := by kernel_rfl
theorem sh3 : tornE shB8 dB = 0 := by kernel_rfl
theorem sh4 : runO dB = some rK := by kernel_rfl
theorem sh5 : runE shB8 dB = 0 ∧ runL shB8 dB = rK := by
  rcases run_err sh3 with ⟨h, W, h1, h2⟩ | ⟨h, _⟩
  · rw [sh4] at h1
    cases h1
    exact ⟨h, h2⟩
  · exfalso
    have : runE shB8 dB = 0 := by kernel_rfl
    omega
theorem sh6 : provedE shB8 dB rK = 0 ∧ restL shB8 dB rK = shB8 := by
  obtain ⟨V, hV⟩ := res_at sh3 sh4
  exact ⟨hV.proved, hV.rest⟩
theorem shuttleHole_any (w : World) : Calls Tryz.prog 6 #[] w (RV w (.bool true)) := by
  have s1 := fun W => apiSheet_any 0 0 2 2 W
  rw [sh1, sh2] at s1
  have r1 := fun W z z' (q : SlB W z shB8) (q' : SlB W z' dB) => prun_any shB8 dB W q q'
  rw [sh5.1, sh5.2] at r1
  have t1 := fun W z z' z'' (q : SlB W z shB8) (q' : SlB W z' dB) (q'' : SlK W z'' rK) => restore_any shB8 dB rK W q q' q''
  rw [sh6.1, sh6.2] at t1
  have k1 := fun W z z' (q : SlK W z rK) (q' : SlK W z' rK) => sameKnots_anyN rK rK W q q'
  rw [decide_eq_true rfl] at k1
  have b1 := fun W z z' (q : SlB W z shB8) (q' : SlB W z' shB8) => sameBars_anyN shB8 shB8 W q q'
  rw [decide_eq_true rfl] at b1
  go_enter Tryz.func6, Tryz.ntmps6
  go_wp2_with fail
  refine (s1 _).mono ?_
  rintro e w1 ⟨vS, rfl, hS1, hb1⟩
  obtain ⟨AS, cS, rfl⟩ := hS1.shape
  replace hS1 := hS1.rd bc_len
  have hOn := own_new w1 (Nat.le_refl _) dB (by decide) #[.int .i64 2, .int .i64 0, .int .i64 (-1), .int .i64 2, .int .i64 0, .int .i64 1] rfl 2 rfl
  have hT2 := Blk.new1 w1 (.cells #[.int .i64 2, .int .i64 0, .int .i64 (-1), .int .i64 2, .int .i64 0, .int .i64 1] 46) 27 #[.slice AS shB8.length cS, .slice (some ⟨w1.heap.size, 0, none⟩) 2 2]
  go_upto_region 3 with fail
  obtain ⟨w2, hw2⟩ : ∃ X, (w1.alloc (.cells #[.int .i64 2, .int .i64 0, .int .i64 (-1), .int .i64 2, .int .i64 0, .int .i64 1] 46)).alloc (.cells #[.slice AS shB8.length cS, .slice (some ⟨w1.heap.size, 0, none⟩) 2 2] 27) = X := ⟨_, rfl⟩
  have hb12 : Below w1.heap.size w1 w2 := by rw [← hw2]; exact bl_alloc (bl_alloc bl_refl _) _
  have hD2 : SlB w2 (.slice (some ⟨w1.heap.size, 0, none⟩) 2 2) dB := by rw [← hw2]; exact (hOn.alloc _).rd bc_len
  rw [hw2] at hT2 ⊢
  clear hw2
  have hS2 := hS1.below hb12
  have hbw2 : Below w.heap.size w w2 := by (repeat (first | exact bl_refl | assumption | (apply bl_then; assumption) | refine bl_alloc ?_ _ | refine bl_drew ?_ | refine bl_drewN ?_ _))
  have fT := hT2.facts
  clear hOn hS1 hb1 hb12
  go_wp2_with fail
  refine (r1 _ _ _ hS2 hD2).mono ?_
  rintro e w3 ⟨vR, rfl, hR3, hb3⟩
  obtain ⟨AR, cR, rfl⟩ := hR3.shape
  replace hR3 := hR3.rd kc_len
  have hT3 := hT2.below hb3
  have hS3 := hS2.below hb3
  have hD3 := hD2.below hb3
  have hbw3 := bl_then hb3 hbw2
  clear fT hT2 hS2 hD2 hb3 hbw2
  have fT := hT3.facts
  go_wp2
  refine wp_region_ords [0, 2] [(1, false), (3, false), (4, false), (5, false), (6, true), (7, true), (8, false)] [9] (by kernel_rfl) (by kernel_rfl) (fun d _ _ _ _ h => by cases d <;> exact h) ?_
  simp only [List.map_cons, List.map_nil, List.getD_cons_zero, List.getD_cons_succ]
  repeat (go_big_quiet_step (fail))
  refine wpQuiet_nil ?_
  refine wpMid_run rfl (fun K hK => ?_)
  go_simp
  refine hK _ _ (by (repeat (first | exact bl_refl | assumption | (apply bl_then; assumption) | refine bl_alloc ?_ _ | refine bl_drew ?_ | refine bl_drewN ?_ _))) ?_
  clear hK K
  refine wpMid_run rfl (fun K hK => ?_)
  refine opK_app (Own.empty kc 2 w3.drew _) ((hR3.drew).alloc _) _ _ rfl rfl rfl (by simp [rK]) (by simp) ?_
  intro v4 w4 hA4 hg4
  have hb4 : Below w3.heap.size w3 w4 := bl_grown hg4 (bl_alloc (bl_drew bl_refl) _) (fun k hk => by simp [Value.ownBlock] at hk; omega)
  refine hK _ _ hb4 ?_
  clear hK K
  simp only [List.nil_append] at hA4
  refine wpMid_run rfl (fun K hK => ?_)
  go_simp
  refine (t1 _ _ _ _ (hS3.below hb4) (hD3.below hb4) (hA4.rd kc_len)).mono ?_
  rintro e w5 ⟨v5, rfl, hO5, hb5⟩
  refine hK _ _ (by (repeat (first | exact bl_refl | assumption | (apply bl_then; assumption) | refine bl_alloc ?_ _ | refine bl_drew ?_ | refine bl_drewN ?_ _))) ?_
  clear hK K
  refine wpMid_run rfl (fun K hK => ?_)
  go_simp
  refine hK _ _ (by (repeat (first | exact bl_refl | assumption | (apply bl_then; assumption) | refine bl_alloc ?_ _ | refine bl_drew ?_ | refine bl_drewN ?_ _))) ?_
  clear hK K
  refine wpMid_take rfl ?_
  intro K hK
  go_big_quiet_op
  go_big_quiet_on
  refine wpMid_take rfl ?_
  intro K hK
  go_big_quiet_op
  go_big_quiet_on
  refine wpMid_run rfl (fun K hK => ?_)
  go_simp
  refine hK _ _ (by (repeat (first | exact bl_refl | assumption | (apply bl_then; assumption) | refine bl_alloc ?_ _ | refine bl_drew ?_ | refine bl_drewN ?_ _))) ?_
  clear hK K
  refine wpMid_nil ?_
  have hS5 := hS3.below (show Below w3.heap.size w3 w5 by (repeat (first | exact bl_refl | assumption | (apply bl_then; assumption) | refine bl_alloc ?_ _ | refine bl_drew ?_ | refine bl_drewN ?_ _)))
  have hR5 := hR3.below (show Below w3.heap.size w3 w5 by (repeat (first | exact bl_refl | assumption | (apply bl_then; assumption) | refine bl_alloc ?_ _ | refine bl_drew ?_ | refine bl_drewN ?_ _)))
  have hbw5 : Below w.heap.size w w5 := by (repeat (first | exact bl_refl | assumption | (apply bl_then; assumption) | refine bl_alloc ?_ _ | refine bl_drew ?_ | refine bl_drewN ?_ _))
  clear hb4 hb5 hg4 hA4 hbw3 hS3 hD3 hR3 hT3 fT
  go_wp2_with fail
  refine (joins_two _).mono ?_
  rintro e w6 ⟨A6, c6, rfl, hb6⟩
  have hK6 := (own_newK w6 (Nat.le_refl _) rK (by decide) #[.int .i64 3, .int .i64 1, .int .i64 2, .int .i64 0, .int .i64 1, .int .i64 1] rfl 3 rfl).rd kc_len
  go_wp2_with fail
  refine (k1 _ _ _ ((hR5.below hb6).alloc _) hK6).mono ?_
  rintro e w7 ⟨rfl, hb7⟩
  go_wp2_with fail
  refine (b1 _ _ _ ((hO5.rd bc_len).below (by (repeat (first | exact bl_refl | assumption | (apply bl_then; assumption) | refine bl_alloc ?_ _ | refine bl_drew ?_ | refine bl_drewN ?_ _)))) (hS5.below (by (repeat (first | exact bl_refl | assumption | (apply bl_then; assumption) | refine bl_alloc ?_ _ | refine bl_drew ?_ | refine bl_drewN ?_ _))))).mono ?_
  rintro e w8 ⟨rfl, hb8⟩
  go_wp2
  go_ret
  exact ⟨rfl, by (repeat (first | exact bl_refl | assumption | (apply bl_then; assumption) | refine bl_alloc ?_ _ | refine bl_drew ?_ | refine bl_drewN ?_ _))⟩
end Go.Proofs.YtpompeancmonbaaGreat

/- The statements' arguments opened: a slice of bars or of knots reads as a list; a torn net as two. Conditions: none. -/
namespace Go.Proofs.YtpompeancmonbaaGreat
open Go.ChangeShapes Go.WideShapes Go.ChangeAt Go.RowKit Go.Deep Go.Joins

set_option maxRecDepth 100000
set_option maxHeartbeats 1000000
theorem lawOwn : ownKnob Tryz.prog.godebug = none := by kernel_rfl
theorem lawLaid : laidOutB Tryz.prog = true := by kernel_rfl
section
variable {H : Type} {enc' : TypeId × Value → H} {P : Program} {w : World} {base : Nat} {spare : Nat → Bool} {held : Bool}
theorem sl_open {α : Type} [Inhabited α] {en : α → List Value} {sz : Nat} {t e : TypeId} {fuel : Nat} {c : Value} {x : DataW H × List MemPlace} (ht : P.underlying t = some (.slice e)) (hC : P.cellsOf e = sz) (hpos : 0 < sz)
    (hel : ∀ fuel cs y, DataW.trod enc' P w base spare held fuel e cs = some y → ∃ a : α, cs = en a) (h : DataW.trod enc' P w base spare held fuel t [c] = some x) : ∃ l : List α, Sl en sz w c l := by
  rcases open_slice ht h with ⟨hcs, _⟩ | ⟨a, len, cap, m, n, D, Pl, hcs, hb, hl, hm, hmm, _, hx⟩
  · obtain rfl : c = .slice none 0 0 := by simpa using hcs
    exact ⟨[], Sl.nil_⟩
  · obtain rfl : c = .slice (some a) len cap := by simpa using hcs
    have hlm : len ≤ m := by rw [hmm]; split <;> omega
    have each : ∀ i, i < len → ∃ z : α, (en z).length = sz ∧ ∀ j, j < sz → w.cell? (a.add (i * sz + j)) = (en z)[j]? := fun i hi => by
      obtain ⟨cs', h1, h2⟩ := hx i (by omega)
      rw [hC] at h1
      obtain ⟨z, rfl⟩ := hel _ _ _ h2
      obtain ⟨_, hlen, hcell⟩ := World.cells?_some h1
      exact ⟨z, hlen, fun j hj => by rw [← add_add]; exact hcell j hj⟩
    obtain ⟨f, hf⟩ := choose_lt each
    refine ⟨(List.range len).map f, some a, cap, by simp, by simpa using hl, hm, fun i x hx => ?_⟩
    rw [List.getElem?_map] at hx
    have hi : i < len := by
      by_cases hi : i < len
      · exact hi
      · rw [List.getElem?_eq_none (by simpa using hi)] at hx; cases hx
    rw [List.getElem?_range hi] at hx
    obtain rfl : f i = x := by simpa using hx
    obtain ⟨hfl, hfc⟩ := hf i hi
    have hc0 := hfc 0 hpos
    have hl0 : 0 < (en (f i)).length := by omega
    rw [List.getElem?_eq_getElem hl0] at hc0
    obtain ⟨b, off, spot⟩ := a
    have hspot : spot = none := by
      have := World.cell?_spot hc0
      unfold Addr.add at this
      split at this
      · exact this
      · rename_i hne
        have h0 := hf 0 (by omega)
        have := h0.2 0 hpos
        rw [List.getElem?_eq_getElem (by omega)] at this
        have := World.cell?_spot this
        simpa [Addr.add] using this
    subst hspot
    have hadd : ∀ n, (⟨b, off, none⟩ : Addr).add n = ⟨b, off + n, none⟩ := fun n => by
      unfold Addr.add
      split
      · rename_i h0; rw [h0]; rfl
      · rfl
    refine ⟨b, off, rfl, ?_, fun j u hu => ?_⟩
    · rw [hadd] at hc0
      unfold World.cell? at hc0
      by_cases hbl : b < w.heap.size
      · exact hbl
      · simp [Array.getElem?_eq_none (show w.heap.size ≤ b by omega)] at hc0
    · have hj : j < sz := by rw [← hfl]; exact (List.getElem?_eq_some_iff.1 hu).1
      have := hfc j hj
      rw [hadd, hu, ← Nat.add_assoc] at this
      exact this
end
section
variable {H : Type} {enc' : TypeId × Value → H} {w : World} {base : Nat} {spare : Nat → Bool} {held : Bool}
theorem bar_trod {fuel : Nat} {cs : List Value} {y : DataW H × List MemPlace} (h : DataW.trod enc' Tryz.prog w base spare held fuel 46 cs = some y) : ∃ a : Bar, cs = bc a := by
  obtain ⟨y0, y1, y2, n, _, hl, h0, h1, h2⟩ := trod_struct3 Tryz.underlying46 h
  obtain ⟨a, e0, _⟩ := DataW.trod_int Tryz.underlying3 h0
  obtain ⟨b, e1, _⟩ := DataW.trod_int Tryz.underlying3 h1
  obtain ⟨c, e2, _⟩ := DataW.trod_int Tryz.underlying3 h2
  have hC : Tryz.prog.cellsOf 46 = 3 := by kernel_rfl
  have hI : Tryz.prog.cellsOf 3 = 1 := by kernel_rfl
  rw [hC] at hl
  simp only [hI] at e0 e1 e2
  match cs, hl with
  | [p, q, r], _ =>
    simp at e0 e1 e2
    subst e0 e1 e2
    exact ⟨(a, b, c), rfl⟩
theorem knot_trod {fuel : Nat} {cs : List Value} {y : DataW H × List MemPlace} (h : DataW.trod enc' Tryz.prog w base spare held fuel 32 cs = some y) : ∃ a : Knot, cs = kc a := by
  obtain ⟨y0, y1, n, _, hl, h0, h1⟩ := trod_struct2 Tryz.underlying32 h
  obtain ⟨a, e0, _⟩ := DataW.trod_int Tryz.underlying3 h0
  obtain ⟨b, e1, _⟩ := DataW.trod_int Tryz.underlying3 h1
  have hC : Tryz.prog.cellsOf 32 = 2 := by kernel_rfl
  have hI : Tryz.prog.cellsOf 3 = 1 := by kernel_rfl
  rw [hC] at hl
  simp only [hI] at e0 e1
  match cs, hl with
  | [p, q], _ =>
    simp at e0 e1
    subst e0 e1
    exact ⟨(a, b), rfl⟩
theorem bars_open {fuel : Nat} {c : Value} {x : DataW H × List MemPlace} (h : DataW.trod enc' Tryz.prog w base spare held fuel 22 [c] = some x) : ∃ l : List Bar, SlB w c l :=
  sl_open Tryz.underlying22 (by kernel_rfl) (by decide) (fun _ _ _ h => bar_trod h) h
theorem torn_open {r : Reach} {b0 : Nat} {v : Value} {d : DataW H} {p : List MemPlace} (hv : Value.okWide Tryz.prog w r b0 24 v) (h : DataW.Trod enc' Tryz.prog w base spare held 24 v d p) :
    ∃ a b N D, v = .agg #[a, b] ∧ SlB w a N ∧ SlB w b D := by
  obtain ⟨a, b, y0, y1, n, rfl, _, _, h0, h1⟩ := open_agg2 Tryz.underlying24 (by kernel_rfl) (by kernel_rfl) hv h
  obtain ⟨N, hN⟩ := bars_open h0
  obtain ⟨D, hD⟩ := bars_open h1
  exact ⟨a, b, N, D, rfl, hN, hD⟩
theorem knot_open {r : Reach} {b0 : Nat} {v : Value} {d : DataW H} {p : List MemPlace} (hv : Value.okWide Tryz.prog w r b0 32 v) (h : DataW.Trod enc' Tryz.prog w base spare held 32 v d p) :
    ∃ x y : Int, v = .agg #[.int .i64 x, .int .i64 y] := by
  obtain ⟨a, b, y0, y1, n, rfl, _, _, h0, h1⟩ := open_agg2 Tryz.underlying32 (by kernel_rfl) (by kernel_rfl) hv h
  obtain ⟨x, e0, _⟩ := DataW.trod_int Tryz.underlying3 h0
  obtain ⟨y, e1, _⟩ := DataW.trod_int Tryz.underlying3 h1
  simp at e0 e1
  subst e0 e1
  exact ⟨x, y, rfl⟩
end
end Go.Proofs.YtpompeancmonbaaGreat

/- A torn net opened, and how long its lists can be. Conditions: none. -/
namespace Go.Proofs.YtpompeancmonbaaGreat
open Go.RowKit Go.ChangeMaps
set_option maxHeartbeats 4000000
set_option maxRecDepth 100000

attribute [local go_sem] Oper.semAt_some
open Go.ChangeShapes Go.WideShapes Go.ChangeAt Go.Deep Go.Joins
section
variable {H : Type} {enc' : TypeId × Value → H} {w : World} {base : Nat} {spare : Nat → Bool} {held : Bool}
theorem bars_sized {fuel : Nat} {c : Value} {x : DataW H × List MemPlace} (h : DataW.trod enc' Tryz.prog w base spare held fuel 22 [c] = some x) (hs : ∀ n ∈ x.1.weights Tryz.prog 22, n ≤ reachBytes) :
    ∃ l : List Bar, SlB w c l ∧ l.length ≤ 5864062014805 := by
  obtain ⟨l, hl⟩ := bars_open h
  refine ⟨l, hl, ?_⟩
  obtain ⟨A, cp, rfl, _⟩ := id hl
  rcases open_slice Tryz.underlying22 h with ⟨hcs, _⟩ | ⟨a, len, cap, m, n, D, Pl, hcs, hb, hle, hm, hmm, hx, _⟩
  · simp at hcs
    have := hcs.2.1
    simp [this]
  · simp at hcs
    have hll := hcs.2.1
    have h1 := hs ((len + (m - len)) * Tryz.prog.bytesOf 46) (by rw [hx]; simp [DataW.weights, Tryz.underlying22])
    have h24 : Tryz.prog.bytesOf 46 = 24 := by kernel_rfl
    rw [h24] at h1
    unfold reachBytes at h1
    omega
theorem torn_sized {r : Reach} {b0 : Nat} {v : Value} {d : DataW H} {p : List MemPlace} (hv : Value.okWide Tryz.prog w r b0 24 v) (h : DataW.Trod enc' Tryz.prog w base spare held 24 v d p)
    (hs : ∀ n ∈ d.weights Tryz.prog 24, n ≤ reachBytes) :
    ∃ a b N D, v = .agg #[a, b] ∧ SlB w a N ∧ SlB w b D ∧ N.length ≤ 5864062014805 ∧ D.length ≤ 5864062014805 := by
  obtain ⟨a, b, y0, y1, n, rfl, hd, _, h0, h1⟩ := open_agg2 Tryz.underlying24 (by kernel_rfl) (by kernel_rfl) hv h
  have hw : ∀ n, n ∈ y0.1.weights Tryz.prog 22 ∨ n ∈ y1.1.weights Tryz.prog 22 → n ≤ reachBytes := fun n hn => hs n (by rw [hd]; simp [DataW.weights, DataW.weightsEach, Tryz.underlying24]; exact hn)
  obtain ⟨N, hN, lN⟩ := bars_sized h0 fun n hn => hw n (.inl hn)
  obtain ⟨D, hD, lD⟩ := bars_sized h1 fun n hn => hw n (.inr hn)
  exact ⟨a, b, N, D, rfl, hN, hD, lN, lD⟩
end
theorem i8_range {n : Int} (h : (Lit.int .i8 n).wf = true) : -128 ≤ n ∧ n ≤ 127 := by
  simp [Lit.wf, IntKind.min, IntKind.max, IntKind.signed, IntKind.bits] at h
  omega
theorem pair_of {cs : Array Value} (h : cs.size = 2) : ∃ a b, cs = #[a, b] := by
  obtain ⟨l⟩ := cs
  match l, h with
  | [a, b], _ => exact ⟨a, b, rfl⟩
section
variable {H : Type} {enc' : TypeId × Value → H} {w : World} {base : Nat} {spare : Nat → Bool} {held : Bool}
theorem i82_open {r : Reach} {b0 : Nat} {v : Value} {d : DataW H} {p : List MemPlace} (hv : Value.okWide Tryz.prog w r b0 26 v) (h : DataW.Trod enc' Tryz.prog w base spare held 26 v d p) :
    ∃ x y : Int, v = .agg #[.int .i8 x, .int .i8 y] ∧ (-128 ≤ x ∧ x ≤ 127) ∧ -128 ≤ y ∧ y ≤ 127 := by
  have ht : Tryz.prog.underlying 26 = some (.array 2 25) := Tryz.underlying26
  have hC : Tryz.prog.cellsOf 26 = 2 := by kernel_rfl
  have hI : Tryz.prog.cellsOf 25 = 1 := by kernel_rfl
  simp only [Value.okWide, ht] at hv
  obtain ⟨cs, rfl, hsz, _⟩ := hv
  obtain ⟨fuel, hf⟩ := h
  obtain ⟨xs, m, _, _, hl, hxl, hel⟩ := DataW.trod_array ht hf
  have h0 := hel 0 (by omega)
  have h1 := hel 1 (by omega)
  rw [List.getElem?_eq_getElem (by omega)] at h0 h1
  obtain ⟨x, e0, _, z0⟩ := DataW.trod_int Tryz.underlying25 h0
  obtain ⟨y, e1, _, z1⟩ := DataW.trod_int Tryz.underlying25 h1
  rw [hC] at hsz
  obtain ⟨c0, c1, rfl⟩ := pair_of hsz
  simp [Value.cells, hI] at e0 e1
  subst e0 e1
  exact ⟨x, y, rfl, i8_range z0, i8_range z1⟩
end
end Go.Proofs.YtpompeancmonbaaGreat

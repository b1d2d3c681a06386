/- A torn net and what is missing, plain. Conditions: the torn net has no error. -/
import Derived.Test.YtpompeancmonbaaGreatD07
import Derived.Test.YtpompeancmonbaaGreatD15
import Derived.Test.YtpompeancmonbaaGreatD21
import Derived.Test.YtpompeancmonbaaGreatD20
import Derived.Test.YtpompeancmonbaaGreatD22
import Derived.Test.YtpompeancmonbaaGreatD24
import Derived.Test.YtpompeancmonbaaGreatD12
import Derived.Test.YtpompeancmonbaaGreatD32
import Derived.Test.YtpompeancmonbaaGreatD23
import Derived.Test.YtpompeancmonbaaGreatD34
import Derived.Test.YtpompeancmonbaaGreatD35
import Derived.Test.YtpompeancmonbaaGreatD31
import Derived.Test.YtpompeancmonbaaGreatD36
import Derived.Test.YtpompeancmonbaaGreatD37
import Derived.Test.YtpompeancmonbaaGreatD19
import Derived.Test.YtpompeancmonbaaGreatD30
import Derived.Test.YtpompeancmonbaaGreatD25
namespace Go.Proofs.YtpompeancmonbaaGreat
open Go.RowKit Go.ChangeMaps
set_option maxHeartbeats 4000000
set_option maxRecDepth 100000

/-! ## a torn net and what is missing -/
theorem deg_cnt {D : List Bar} (hn : D.Nodup) (hs : ∀ b ∈ D, Sided b) (k : Knot) : degN D k = cnt (legsAt D k) := by
  rw [cnt_sum k hn hs, degN_eq]
  clear hn
  induction D with
  | nil => rfl
  | cons b r ih =>
    rw [List.countP_cons, List.map_cons, List.sum_cons, ih fun x hx => hs x (List.mem_cons_of_mem _ hx)]
    have h : shr b k = if atB k b = true then 1 else 0 := by
      unfold shr
      by_cases h1 : k = lowK b
      · have h2 : ¬ k = uppK b := fun e => up_ne_low (h1.symm.trans e)
        have ht : atB k b = true := by subst h1; unfold atB; simp
        rw [if_pos h1, if_neg h2, if_pos ht]
      · by_cases h2 : k = uppK b
        · have ht : atB k b = true := by subst h2; unfold atB; simp
          rw [if_neg h1, if_pos h2, if_pos ht]
        · have ht : ¬ atB k b = true := by
            unfold atB
            simp only [Bool.or_eq_true, decide_eq_true_eq, not_or]
            exact ⟨fun e => h1 e.symm, fun e => h2 e.symm⟩
          rw [if_neg h1, if_neg h2, if_neg ht]
    rw [h]
    omega
theorem deg_parts {N D : List Bar} (hE : tornE N D = 0) (k : Knot) : degN N k = degN (wout N D) k + degN D k := by
  have hok := torn_ok hE
  have hN := netE_ok (torn_nets hE).1
  have hD := netE_ok (torn_nets hE).2
  have h1 := deg_union (a := wout N D) (b := D) (hN.nodup.filter _) hD.nodup k
  have e1 : setB (wout N D ++ D) = N := sortedB_eq (setB_sorted _) hN.sorted fun x => by
    rw [setB_mem, List.mem_append, wout_memN]
    constructor
    · rintro (h | h)
      · exact h.1
      · exact hok.sub _ h
    · intro h
      by_cases q : x ∈ D
      · exact .inr q
      · exact .inl ⟨h, q⟩
  rw [e1, meet_none] at h1
  have e2 : degN [] k = 0 := by rw [degN_eq]; rfl
  omega
theorem torn_union {N D : List Bar} (hE : tornE N D = 0) : setB (D ++ wout N D) = N := by
  have hok := torn_ok hE
  have hN := netE_ok (torn_nets hE).1
  refine sortedB_eq (setB_sorted _) hN.sorted fun x => ?_
  rw [setB_mem, List.mem_append, wout_memN]
  constructor
  · rintro (h | h)
    · exact hok.sub _ h
    · exact h.1
  · intro h
    by_cases q : x ∈ D
    · exact .inl q
    · exact .inr ⟨h, q⟩
theorem torn_meet (N D : List Bar) : meetL D (wout N D) = [] := by
  refine List.eq_nil_iff_forall_not_mem.2 fun x hx => ?_
  rw [meet_mem, wout_memN] at hx
  exact hx.2.2 hx.1
theorem parts_one {l : List Bar} (hs : l.Pairwise bltP) (hd : ∀ b ∈ l, Sided b) {b0 : Bar} (hb0 : b0 ∈ l) (hcn : ∀ x ∈ l, Conn l b0 x) : (partsL l).length = 1 := by
  rw [partsL_eq hs hd]
  have key : ∀ k, k ≤ l.length → 1 ≤ k → (prtC l k).length = 1 := fun k => by
    induction k with
    | zero => intro _ h; omega
    | succ k ih =>
      intro hk _
      have hlt : k < l.length := by omega
      rw [prtC_succ hlt]
      by_cases hk0 : k = 0
      · subst hk0
        rw [if_neg (by simp [prtC])]
        simp [prtC]
      · have h1 : l[k] ∈ (prtC l k).flatten := by
          refine (prtC_flat l k (by omega) _).2 ⟨0, by omega, by omega, ?_⟩
          exact ((hcn _ (List.getElem_mem _)).symm hb0).trans (hcn _ (List.getElem_mem hlt))
        rw [if_pos h1]
        exact ih (by omega) (by omega)
  refine key _ (Nat.le_refl _) ?_
  have : 0 < l.length := List.length_pos_of_mem hb0
  omega
theorem run_conn {D : List Bar} {d : Dart} {L : Nat} (h : RunAt D d L) : ∀ t, t < L → Conn D (barD d) (barD (dart D d t))
  | 0, _ => .refl
  | t + 1, ht => by
    have ih := run_conn h t (by omega)
    obtain ⟨a1, a2⟩ := h.ok t (by omega)
    obtain ⟨b1, b2⟩ := h.ok (t + 1) ht
    refine ih.step b2 ?_
    have e1 : (dart D d (t + 1)).1 = armK (dart D d t).1 (dart D d t).2 := rfl
    have c1 : armK (dart D d t).1 (dart D d t).2 = lowK (barD (dart D d t)) ∨ armK (dart D d t).1 (dart D d t).2 = uppK (barD (dart D d t)) := by
      have := armB_rev (dart D d t).1 a1
      exact armB_end (k := armK (dart D d t).1 (dart D d t).2) (a := 3 - (dart D d t).2) this
    have c2 : (dart D d (t + 1)).1 = lowK (barD (dart D d (t + 1))) ∨ (dart D d (t + 1)).1 = uppK (barD (dart D d (t + 1))) := armB_end (a := (dart D d (t + 1)).2) rfl
    rw [e1] at c2
    unfold Tch
    rcases c1 with c1 | c1 <;> rcases c2 with c2 | c2
    · exact .inl (c1.symm.trans c2)
    · exact .inr (.inl (c1.symm.trans c2))
    · exact .inr (.inr (.inl (c1.symm.trans c2)))
    · exact .inr (.inr (.inr (c1.symm.trans c2)))
structure Mended (N D : List Bar) (W : List Knot) : Prop where
  made : madeE W = 0 ∧ madeL W = D
  one : legC D (holeK D) 1 = 2
  three : legC D (holeK D) 3 = 0
  parts : (partsL D).length = 1
theorem mended_of {N D : List Bar} (hE : tornE N D = 0) {W : List Knot} (h : runO D = some W) : Mended N D W := by
  obtain ⟨V, hV⟩ := res_at hE h
  have hD := netE_ok (torn_nets hE).2
  have hd : ∀ b ∈ D, Sided b := fun b hb => (hD.ok b hb).2.2
  have hr : rdyB D = true := by unfold rdyB; rw [h]; rfl
  have h2 := (rdy_iff.1 hr).1
  have h1 := ready_ends hd hr
  obtain ⟨k, L, _, hA⟩ := run_at h
  have hdc : ∀ q, degN D q = cnt (legsAt D q) := deg_cnt hD.nodup hd
  refine ⟨hV.made, ?_, ?_, ?_⟩
  · rw [← h2]
    unfold legC oddK
    congr 1
    refine List.filter_congr fun q hq => ?_
    rw [hdc]
    cases ho : oddL (legsAt D q) with
    | true =>
      have := h1 q (List.mem_filter.2 ⟨hq, ho⟩)
      simp [this]
    | false =>
      unfold oddL at ho
      have : cnt (legsAt D q) ≠ 1 := fun e => by rw [e] at ho; cases ho
      simp [this]
  · unfold legC
    rw [List.length_eq_zero_iff, List.filter_eq_nil_iff]
    intro q hq e
    rw [hdc] at e
    have e3 : cnt (legsAt D q) = 3 := by simpa using e
    have := h1 q (List.mem_filter.2 ⟨hq, by unfold oddL; rw [e3]; rfl⟩)
    omega
  · refine parts_one hD.sorted hd hA.bar fun x hx => ?_
    have := hA.all x hx
    unfold pathB at this
    obtain ⟨t, ht, rfl⟩ := List.mem_map.1 this
    exact run_conn hA t (List.mem_range.1 ht)
theorem run_err {N D : List Bar} (hE : tornE N D = 0) : (runE N D = 0 ∧ ∃ W, runO D = some W ∧ runL N D = W) ∨ ((runE N D = 18 ∨ runE N D = 7) ∧ runL N D = []) := by
  have f1 : ∀ x : Int, firstI [0, x] = x := fun x => by
    unfold firstI
    rw [if_pos rfl]
    unfold firstI
    by_cases h : x = 0
    · rw [if_pos h, h]; rfl
    · rw [if_neg h]
  have hn : noneE N D = whenI (decide (D.length = 0)) 7 := by unfold noneE; rw [hE, f1]
  by_cases h0 : D.length = 0
  · have e : noneE N D = 7 := by rw [hn, decide_eq_true h0]; rfl
    refine .inr ⟨.inr ?_, ?_⟩
    · unfold runE; rw [e, if_neg (by decide)]
    · unfold runL; rw [e, if_neg (by decide)]
  · have e : noneE N D = 0 := by rw [hn, decide_eq_false h0]; rfl
    cases h : runO D with
    | none =>
      have hr : rdyB D = false := by unfold rdyB; rw [h]; rfl
      refine .inr ⟨.inl ?_, ?_⟩
      · unfold runE; rw [if_pos e, hr]; rfl
      · unfold runL; rw [if_pos e, h]; rfl
    | some W =>
      have hr : rdyB D = true := by unfold rdyB; rw [h]; rfl
      refine .inl ⟨?_, W, rfl, ?_⟩
      · unfold runE; rw [if_pos e, hr]; rfl
      · unfold runL; rw [if_pos e, h]; rfl
end Go.Proofs.YtpompeancmonbaaGreat

/- The helpers of chapter 9's great statements, walked. Conditions: bounds. -/
namespace Go.Proofs.YtpompeancmonbaaGreat
open Go.RowKit Go.ChangeMaps
set_option maxHeartbeats 4000000
set_option maxRecDepth 100000

attribute [local go_sem] Oper.semAt_some
/-! ## the helpers -/
theorem sbars_any {v : Value} (l : List Bar) (w : World) (h : SlB w v l) (hlen : l.length ≤ 5864062014805) : Calls Tryz.prog 8 #[v] w (RB w l) := by
  go_enter Tryz.func8, Tryz.ntmps8
  go_wp2_with (at_builtin; refine wpList_app rfl bar_elem bc_len bc_one _ _ rfl w.heap.size (.slice (some ⟨w.heap.size, 0, none⟩) 0 0) _ [] l rfl rfl (Own.empty bc 3 w _) (h.alloc _) (by simp [maxLen]; omega) (by simp; omega) (by simp) ?_; intro v2 w2 hown2 hgr2)
  have hb2 : Below w.heap.size w w2 := bl_grown hgr2 (bl_alloc bl_refl _) fun k hk => by simp [Value.ownBlock] at hk; omega
  go_ret
  exact ⟨_, rfl, by simpa using hown2, hb2⟩
def tokB (N D : List Bar) (n : Int) : Bool := (decide ((N.length : Int) ≤ n) && decide ((D.length : Int) ≤ n)) && decide (tornE N D = 0)
def RTO (w : World) (N D : List Bar) (b : Bool) (e : Ending) (w' : World) : Prop := ∃ A c A' c', e = .returned (.tuple #[.agg #[.slice A N.length c, .slice A' D.length c'], .bool b]) ∧ SlB w' (.slice A N.length c) N ∧ SlB w' (.slice A' D.length c') D ∧ Below w.heap.size w w'
theorem storn_any {v u : Value} (N D : List Bar) (n : Int) (w : World) (hN : SlB w v N) (hD : SlB w u D) (lN : N.length ≤ 5864062014805) (lD : D.length ≤ 5864062014805) : Calls Tryz.prog 5 #[.agg #[v, u], .int .i64 n] w (RTO w N D (tokB N D n)) := by
  obtain ⟨AN, cN, rfl, hN1, hN2, hN3⟩ := id hN
  obtain ⟨AD, cD, rfl, hD1, hD2, hD3⟩ := id hD
  have hB := (Blk.new w 24 #[.slice AN N.length cN, .slice AD D.length cD]).alloc (.cells #[.slice none 0 0, .slice none 0 0] 27)
  have hR := Blk.new1 w (.cells #[.slice AN N.length cN, .slice AD D.length cD] 24) 27 #[.slice none 0 0, .slice none 0 0]
  go_enter Tryz.func5, Tryz.ntmps5
  go_upto_region 1 with fail
  obtain ⟨w0, hw0⟩ : ∃ X, (w.alloc (.cells #[.slice AN N.length cN, .slice AD D.length cD] 24)).alloc (.cells #[.slice none 0 0, .slice none 0 0] 27) = X := ⟨_, rfl⟩
  have hsz : w0.heap.size = w.heap.size + 2 := by rw [← hw0]; simp
  have hb0 : Below w.heap.size w w0 := by rw [← hw0]; exact bl_alloc (bl_alloc bl_refl _) _
  rw [hw0] at hB hR ⊢
  have fhB := hB.facts
  clear hw0
  refine wp_region_ord (w.heap.size + 1) [0, 1, 3, 4, 7, 8] [(2, false), (5, false), (6, true), (9, false), (10, false), (11, false), (12, false), (13, true), (14, true), (15, false)] [16] (by kernel_rfl) (by kernel_rfl) (fun d _ _ _ _ h => by cases d <;> exact h) ?_
  simp only [List.map_cons, List.map_nil, List.getD_cons_zero, List.getD_cons_succ]
  repeat (go_big_quiet_step (fail))
  refine wpQuiet_nil ?_
  refine wpMid_run rfl (fun K hK => ?_)
  go_simp
  refine (sbars_any N _ ((hN.below hb0).drew) lN).mono ?_
  rintro e w1 ⟨v1, rfl, hO1, hb1⟩
  have h01 : Below w0.heap.size w0 w1 := bl_then hb1 (bl_drew bl_refl)
  refine hK _ _ (h01.mono (by omega)) ?_
  clear hK K
  refine wpMid_run rfl (fun K hK => ?_)
  go_simp
  refine (sbars_any D _ ((hD.below hb0).below h01) lD).mono ?_
  rintro e w2 ⟨v2, rfl, hO2, hb2⟩
  have h02 : Below w0.heap.size w0 w2 := bl_then hb2 h01
  refine hK _ _ (h02.mono (by omega)) ?_
  clear hK K
  obtain ⟨A1, c1, rfl⟩ := hO1.shape
  obtain ⟨A2, c2, rfl⟩ := hO2.shape
  refine wpMid_take rfl ?_
  intro K hK
  go_big_quiet_op
  go_big_quiet_on
  refine wpMid_run rfl (fun K hK => ?_)
  go_simp
  refine (short_any N D n _ ((hN.below hb0).below h02) ((hD.below hb0).below h02)).mono ?_
  rintro e w3 ⟨rfl, hb3⟩
  have h03 : Below w0.heap.size w0 w3 := bl_then hb3 h02
  refine hK _ _ (h03.mono (by omega)) ?_
  clear hK K
  obtain ⟨sb, hsb⟩ : ∃ b, (decide ((N.length : Int) ≤ n) && decide ((D.length : Int) ≤ n)) = b := ⟨_, rfl⟩
  rw [hsb]
  refine wpMid_run rfl (fun K hK => ?_)
  go_simp
  refine hK _ _ (h03.mono (by omega)) ?_
  clear hK K
  have fB3 := (hB.below h03).facts
  have hR1 := (hO1.rd bc_len).below (show Below w1.heap.size w1 w3 from bl_then hb3 hb2)
  have hR2 := (hO2.rd bc_len).below hb3
  cases sb
  · have HT : Hid (tokB N D n = false) := by unfold Hid tokB; rw [hsb]; rfl
    refine wpMid_skipF (by kernel_rfl) ?_
    intro K hK
    simp only [Act.put, List.setIfInBounds_toArray, List.set_cons_zero, List.set_cons_succ]
    refine hK _ ?_
    clear hK K
    refine wpMid_skipF (by kernel_rfl) ?_
    intro K hK
    simp only [Act.put, List.setIfInBounds_toArray, List.set_cons_zero, List.set_cons_succ]
    refine hK _ ?_
    clear hK K
    refine wpMid_skipT (by kernel_rfl) ?_
    intro K hK
    simp only [Act.put, List.setIfInBounds_toArray, List.set_cons_zero, List.set_cons_succ]
    refine hK _ ?_
    clear hK K
    refine wpMid_take rfl ?_
    intro K hK
    go_big_quiet_op
    go_big_quiet_on
    refine wpMid_run rfl (fun K hK => ?_)
    refine op_store_blk (hR.below h03) _ _ _ rfl rfl rfl rfl (by kernel_rfl) (by kernel_rfl) ?_
    intro w5 hR5 hc5
    have hb5 : Below (w.heap.size + 1) w0 w5 := ((Chg.of_below (S := [w.heap.size + 1]) h03).trans hc5).below (by simp) (by omega)
    refine hK _ _ hb5 ?_
    clear hK K
    refine wpMid_nil ?_
    have fR5 := hR5.facts
    go_wp2
    refine bodyPost_ret (v := .tuple #[.agg #[.slice A1 N.length c1, .slice A2 D.length c2], .bool false]) (by simp [results, Tryz.results5, go_sem, fR5]) rfl ?_
    exact ⟨A1, c1, A2, c2, by rw [HT.out], ((hO1.below (show Below w1.heap.size w1 w3 from bl_then hb3 hb2)).chg hc5 (by simp; omega)).rd bc_len, ((hO2.below (show Below w2.heap.size w2 w3 from hb3)).chg hc5 (by simp; have := h01.size; omega)).rd bc_len, hb0.trans (hb5.mono (by omega))⟩
  · obtain ⟨E, hE⟩ : ∃ E, tornE N D = E := ⟨_, rfl⟩
    have HT : Hid (tokB N D n = (E == 0)) := by unfold Hid tokB; rw [hsb, hE]; rfl
    refine wpMid_run rfl (fun K hK => ?_)
    go_simp
    refine hK _ _ (h03.mono (by omega)) ?_
    clear hK K
    refine wpMid_run rfl (fun K hK => ?_)
    go_simp
    refine (rtorn_any N D _ ((hN.below hb0).below h03) ((hD.below hb0).below h03)).mono ?_
    rintro e w4 ⟨rfl, hb4⟩
    rw [hE]
    have h04 : Below w0.heap.size w0 w4 := bl_then hb4 h03
    refine hK _ _ (h04.mono (by omega)) ?_
    clear hK K
    refine wpMid_take rfl ?_
    intro K hK
    go_big_quiet_op
    go_big_quiet_on
    refine wpMid_take rfl ?_
    intro K hK
    go_big_quiet_op
    go_big_quiet_on
    refine wpMid_run rfl (fun K hK => ?_)
    refine op_store_blk (hR.below h04) _ _ _ rfl rfl rfl rfl (by kernel_rfl) (by kernel_rfl) ?_
    intro w5 hR5 hc5
    have hb5 : Below (w.heap.size + 1) w0 w5 := ((Chg.of_below (S := [w.heap.size + 1]) h04).trans hc5).below (by simp) (by omega)
    refine hK _ _ hb5 ?_
    clear hK K
    refine wpMid_nil ?_
    have fR5 := hR5.facts
    go_wp2
    refine bodyPost_ret (v := .tuple #[.agg #[.slice A1 N.length c1, .slice A2 D.length c2], .bool (E == 0)]) (by simp [results, Tryz.results5, go_sem, fR5]) rfl ?_
    exact ⟨A1, c1, A2, c2, by rw [HT.out], ((hO1.below (show Below w1.heap.size w1 w4 from bl_then hb4 (bl_then hb3 hb2))).chg hc5 (by simp; omega)).rd bc_len, ((hO2.below (show Below w2.heap.size w2 w4 from bl_then hb4 hb3)).chg hc5 (by simp; have := h01.size; omega)).rd bc_len, hb0.trans (hb5.mono (by omega))⟩
def dB : List Bar := [(2, 0, -1), (2, 0, 1)]
def rK : List Knot := [(3, 1), (2, 0), (1, 1)]
def shB8 : List Bar := [(0, 0, 1), (2, 0, -1), (2, 0, 1), (4, 0, -1), (1, 1, -1), (1, 1, 1), (3, 1, -1), (3, 1, 1)]
theorem sh1 : sheetE 0 0 2 2 = 0 := by kernel_rfl
theorem sh2 : sheetL 0 0 2 2 = shB8 := by kernel_rfl
theorem sh3 : tornE shB8 dB = 0 := by kernel_rfl
theorem sh4 : runO dB = some rK := by kernel_rfl
theorem sh5 : runE shB8 dB = 0 ∧ runL shB8 dB = rK := by
  rcases run_err sh3 with ⟨h, W, h1, h2⟩ | ⟨h, _⟩
  · rw [sh4] at h1
    cases h1
    exact ⟨h, h2⟩
  · exfalso
    have : runE shB8 dB = 0 := by kernel_rfl
    omega
theorem sh6 : provedE shB8 dB rK = 0 ∧ restL shB8 dB rK = shB8 := by
  obtain ⟨V, hV⟩ := res_at sh3 sh4
  exact ⟨hV.proved, hV.rest⟩
theorem shuttleHole_any (w : World) : Calls Tryz.prog 6 #[] w (RV w (.bool true)) := by
  have s1 := fun W => apiSheet_any 0 0 2 2 W
  rw [sh1, sh2] at s1
  have r1 := fun W z z' (q : SlB W z shB8) (q' : SlB W z' dB) => prun_any shB8 dB W q q'
  rw [sh5.1, sh5.2] at r1
  have t1 := fun W z z' z'' (q : SlB W z shB8) (q' : SlB W z' dB) (q'' : SlK W z'' rK) => restore_any shB8 dB rK W q q' q''
  rw [sh6.1, sh6.2] at t1
  have k1 := fun W z z' (q : SlK W z rK) (q' : SlK W z' rK) => sameKnots_anyN rK rK W q q'
  rw [decide_eq_true rfl] at k1
  have b1 := fun W z z' (q : SlB W z shB8) (q' : SlB W z' shB8) => sameBars_anyN shB8 shB8 W q q'
  rw [decide_eq_true rfl] at b1
  go_enter Tryz.func6, Tryz.ntmps6
  go_wp2_with fail
  refine (s1 _).mono ?_
  rintro e w1 ⟨vS, rfl, hS1, hb1⟩
  obtain ⟨AS, cS, rfl⟩ := hS1.shape
  replace hS1 := hS1.rd bc_len
  have hOn := own_new w1 (Nat.le_refl _) dB (by decide) #[.int .i64 2, .int .i64 0, .int .i64 (-1), .int .i64 2, .int .i64 0, .int .i64 1] rfl 2 rfl
  have hT2 := Blk.new1 w1 (.cells #[.int .i64 2, .int .i64 0, .int .i64 (-1), .int .i64 2, .int .i64 0, .int .i64 1] 46) 27 #[.slice AS shB8.length cS, .slice (some ⟨w1.heap.size, 0, none⟩) 2 2]
  go_upto_region 3 with fail
  obtain ⟨w2, hw2⟩ : ∃ X, (w1.alloc (.cells #[.int .i64 2, .int .i64 0, .int .i64 (-1), .int .i64 2, .int .i64 0, .int .i64 1] 46)).alloc (.cells #[.slice AS shB8.length cS, .slice (some ⟨w1.heap.size, 0, none⟩) 2 2] 27) = X := ⟨_, rfl⟩
  have hb12 : Below w1.heap.size w1 w2 := by rw [← hw2]; exact bl_alloc (bl_alloc bl_refl _) _
  have hD2 : SlB w2 (.slice (some ⟨w1.heap.size, 0, none⟩) 2 2) dB := by rw [← hw2]; exact (hOn.alloc _).rd bc_len
  rw [hw2] at hT2 ⊢
  clear hw2
  have hS2 := hS1.below hb12
  have hbw2 : Below w.heap.size w w2 := by (repeat (first | exact bl_refl | assumption | (apply bl_then; assumption) | refine bl_alloc ?_ _ | refine bl_drew ?_ | refine bl_drewN ?_ _))
  have fT := hT2.facts
  clear hOn hS1 hb1 hb12
  go_wp2_with fail
  refine (r1 _ _ _ hS2 hD2).mono ?_
  rintro e w3 ⟨vR, rfl, hR3, hb3⟩
  obtain ⟨AR, cR, rfl⟩ := hR3.shape
  replace hR3 := hR3.rd kc_len
  have hT3 := hT2.below hb3
  have hS3 := hS2.below hb3
  have hD3 := hD2.below hb3
  have hbw3 := bl_then hb3 hbw2
  clear fT hT2 hS2 hD2 hb3 hbw2
  have fT := hT3.facts
  go_wp2
  refine wp_region_ords [0, 2] [(1, false), (3, false), (4, false), (5, false), (6, true), (7, true), (8, false)] [9] (by kernel_rfl) (by kernel_rfl) (fun d _ _ _ _ h => by cases d <;> exact h) ?_
  simp only [List.map_cons, List.map_nil, List.getD_cons_zero, List.getD_cons_succ]
  repeat (go_big_quiet_step (fail))
  refine wpQuiet_nil ?_
  refine wpMid_run rfl (fun K hK => ?_)
  go_simp
  refine hK _ _ (by (repeat (first | exact bl_refl | assumption | (apply bl_then; assumption) | refine bl_alloc ?_ _ | refine bl_drew ?_ | refine bl_drewN ?_ _))) ?_
  clear hK K
  refine wpMid_run rfl (fun K hK => ?_)
  refine opK_app (Own.empty kc 2 w3.drew _) ((hR3.drew).alloc _) _ _ rfl rfl rfl (by simp [rK]) (by simp) ?_
  intro v4 w4 hA4 hg4
  have hb4 : Below w3.heap.size w3 w4 := bl_grown hg4 (bl_alloc (bl_drew bl_refl) _) (fun k hk => by simp [Value.ownBlock] at hk; omega)
  refine hK _ _ hb4 ?_
  clear hK K
  simp only [List.nil_append] at hA4
  refine wpMid_run rfl (fun K hK => ?_)
  go_simp
  refine (t1 _ _ _ _ (hS3.below hb4) (hD3.below hb4) (hA4.rd kc_len)).mono ?_
  rintro e w5 ⟨v5, rfl, hO5, hb5⟩
  refine hK _ _ (by (repeat (first | exact bl_refl | assumption | (apply bl_then; assumption) | refine bl_alloc ?_ _ | refine bl_drew ?_ | refine bl_drewN ?_ _))) ?_
  clear hK K
  refine wpMid_run rfl (fun K hK => ?_)
  go_simp
  refine hK _ _ (by (repeat (first | exact bl_refl | assumption | (apply bl_then; assumption) | refine bl_alloc ?_ _ | refine bl_drew ?_ | refine bl_drewN ?_ _))) ?_
  clear hK K
  refine wpMid_take rfl ?_
  intro K hK
  go_big_quiet_op
  go_big_quiet_on
  refine wpMid_take rfl ?_
  intro K hK
  go_big_quiet_op
  go_big_quiet_on
  refine wpMid_run rfl (fun K hK => ?_)
  go_simp
  refine hK _ _ (by (repeat (first | exact bl_refl | assumption | (apply bl_then; assumption) | refine bl_alloc ?_ _ | refine bl_drew ?_ | refine bl_drewN ?_ _))) ?_
  clear hK K
  refine wpMid_nil ?_
  have hS5 := hS3.below (show Below w3.heap.size w3 w5 by (repeat (first | exact bl_refl | assumption | (apply bl_then; assumption) | refine bl_alloc ?_ _ | refine bl_drew ?_ | refine bl_drewN ?_ _)))
  have hR5 := hR3.below (show Below w3.heap.size w3 w5 by (repeat (first | exact bl_refl | assumption | (apply bl_then; assumption) | refine bl_alloc ?_ _ | refine bl_drew ?_ | refine bl_drewN ?_ _)))
  have hbw5 : Below w.heap.size w w5 := by (repeat (first | exact bl_refl | assumption | (apply bl_then; assumption) | refine bl_alloc ?_ _ | refine bl_drew ?_ | refine bl_drewN ?_ _))
  clear hb4 hb5 hg4 hA4 hbw3 hS3 hD3 hR3 hT3 fT
  go_wp2_with fail
  refine (joins_two _).mono ?_
  rintro e w6 ⟨A6, c6, rfl, hb6⟩
  have hK6 := (own_newK w6 (Nat.le_refl _) rK (by decide) #[.int .i64 3, .int .i64 1, .int .i64 2, .int .i64 0, .int .i64 1, .int .i64 1] rfl 3 rfl).rd kc_len
  go_wp2_with fail
  refine (k1 _ _ _ ((hR5.below hb6).alloc _) hK6).mono ?_
  rintro e w7 ⟨rfl, hb7⟩
  go_wp2_with fail
  refine (b1 _ _ _ ((hO5.rd bc_len).below (by (repeat (first | exact bl_refl | assumption | (apply bl_then; assumption) | refine bl_alloc ?_ _ | refine bl_drew ?_ | refine bl_drewN ?_ _)))) (hS5.below (by (repeat (first | exact bl_refl | assumption | (apply bl_then; assumption) | refine bl_alloc ?_ _ | refine bl_drew ?_ | refine bl_drewN ?_ _))))).mono ?_
  rintro e w8 ⟨rfl, hb8⟩
  go_wp2
  go_ret
  exact ⟨rfl, by (repeat (first | exact bl_refl | assumption | (apply bl_then; assumption) | refine bl_alloc ?_ _ | refine bl_drew ?_ | refine bl_drewN ?_ _))⟩
end Go.Proofs.YtpompeancmonbaaGreat

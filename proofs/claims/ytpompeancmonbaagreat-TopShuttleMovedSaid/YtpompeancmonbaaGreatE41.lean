/- A torn net and what is missing, plain. Conditions: the torn net has no error. -/
import Derived.Test.YtpompeancmonbaaGreatE08
import Derived.Test.YtpompeancmonbaaGreatE17
import Derived.Test.YtpompeancmonbaaGreatE23
import Derived.Test.YtpompeancmonbaaGreatE22
import Derived.Test.YtpompeancmonbaaGreatE24
import Derived.Test.YtpompeancmonbaaGreatE26
import Derived.Test.YtpompeancmonbaaGreatE14
import Derived.Test.YtpompeancmonbaaGreatE38
import Derived.Test.YtpompeancmonbaaGreatE25
import Derived.Test.YtpompeancmonbaaGreatE39
import Derived.Test.YtpompeancmonbaaGreatE34
import Derived.Test.YtpompeancmonbaaGreatE30
import Derived.Test.YtpompeancmonbaaGreatE40
import Derived.Test.YtpompeancmonbaaGreatE37
import Derived.Test.YtpompeancmonbaaGreatE35
import Derived.Test.YtpompeancmonbaaGreatE33
import Derived.Test.YtpompeancmonbaaGreatE29
namespace Go.Proofs.YtpompeancmonbaaGreat
open Go.RowKit Go.ChangeMaps
set_option maxHeartbeats 4000000
set_option maxRecDepth 100000

/-! ## a torn net and what is missing -/
theorem deg_cnt {D : List Bar} (hn : D.Nodup) (hs : ∀ b ∈ D, Sided b) (k : Knot) : degN D k = cnt (legsAt D k) := by
  rw [cnt_sum k hn hs, degN_eq]
  clear hn
  induction D with
  | nil => rfl
  | cons b r ih =>
    rw [List.countP_cons, List.map_cons, List.sum_cons, ih fun x hx => hs x (List.mem_cons_of_mem _ hx)]
    have h : shr b k = if atB k b = true then 1 else 0 := by
      unfold shr
      by_cases h1 : k = lowK b
      · have h2 : ¬ k = uppK b := fun e => up_ne_low (h1.symm.trans e)
        have ht : atB k b = true := by subst h1; unfold atB; simp
        rw [if_pos h1, if_neg h2, if_pos ht]
      · by_cases h2 : k = uppK b
        · have ht : atB k b = true := by subst h2; unfold atB; simp
          rw [if_neg h1, if_pos h2, if_pos ht]
        · have ht : ¬ atB k b = true := by
            unfold atB
            simp only [Bool.or_eq_true, decide_eq_true_eq, not_or]
            exact ⟨fun e => h1 e.symm, fun e => h2 e.symm⟩
          rw [if_neg h1, if_neg h2, if_neg ht]
    rw [h]
    omega
theorem deg_parts {N D : List Bar} (hE : tornE N D = 0) (k : Knot) : degN N k = degN (wout N D) k + degN D k := by
  have hok := torn_ok hE
  have hN := netE_ok (torn_nets hE).1
  have hD := netE_ok (torn_nets hE).2
  have h1 := deg_union (a := wout N D) (b := D) (hN.nodup.filter _) hD.nodup k
  have e1 : setB (wout N D ++ D) = N := sortedB_eq (setB_sorted _) hN.sorted fun x => by
    rw [setB_mem, List.mem_append, wout_memN]
    constructor
    · rintro (h | h)
      · exact h.1
      · exact hok.sub _ h
    · intro h
      by_cases q : x ∈ D
      · exact .inr q
      · exact .inl ⟨h, q⟩
  rw [e1, meet_none] at h1
  have e2 : degN [] k = 0 := by rw [degN_eq]; rfl
  omega
theorem torn_union {N D : List Bar} (hE : tornE N D = 0) : setB (D ++ wout N D) = N := by
  have hok := torn_ok hE
  have hN := netE_ok (torn_nets hE).1
  refine sortedB_eq (setB_sorted _) hN.sorted fun x => ?_
  rw [setB_mem, List.mem_append, wout_memN]
  constructor
  · rintro (h | h)
    · exact hok.sub _ h
    · exact h.1
  · intro h
    by_cases q : x ∈ D
    · exact .inl q
    · exact .inr ⟨h, q⟩
theorem torn_meet (N D : List Bar) : meetL D (wout N D) = [] := by
  refine List.eq_nil_iff_forall_not_mem.2 fun x hx => ?_
  rw [meet_mem, wout_memN] at hx
  exact hx.2.2 hx.1
theorem parts_one {l : List Bar} (hs : l.Pairwise bltP) (hd : ∀ b ∈ l, Sided b) {b0 : Bar} (hb0 : b0 ∈ l) (hcn : ∀ x ∈ l, Conn l b0 x) : (partsL l).length = 1 := by
  rw [partsL_eq hs hd]
  have key : ∀ k, k ≤ l.length → 1 ≤ k → (prtC l k).length = 1 := fun k => by
    induction k with
    | zero => intro _ h; omega
    | succ k ih =>
      intro hk _
      have hlt : k < l.length := by omega
      rw [prtC_succ hlt]
      by_cases hk0 : k = 0
      · subst hk0
        rw [if_neg (by simp [prtC])]
        simp [prtC]
      · have h1 : l[k] ∈ (prtC l k).flatten := by
          refine (prtC_flat l k (by omega) _).2 ⟨0, by omega, by omega, ?_⟩
          exact ((hcn _ (List.getElem_mem _)).symm hb0).trans (hcn _ (List.getElem_mem hlt))
        rw [if_pos h1]
        exact ih (by omega) (by omega)
  refine key _ (Nat.le_refl _) ?_
  have : 0 < l.length := List.length_pos_of_mem hb0
  omega
theorem run_conn {D : List Bar} {d : Dart} {L : Nat} (h : RunAt D d L) : ∀ t, t < L → Conn D (barD d) (barD (dart D d t))
  | 0, _ => .refl
  | t + 1, ht => by
    have ih := run_conn h t (by omega)
    obtain ⟨a1, a2⟩ := h.ok t (by omega)
    obtain ⟨b1, b2⟩ := h.ok (t + 1) ht
    refine ih.step b2 ?_
    have e1 : (dart D d (t + 1)).1 = armK (dart D d t).1 (dart D d t).2 := rfl
    have c1 : armK (dart D d t).1 (dart D d t).2 = lowK (barD (dart D d t)) ∨ armK (dart D d t).1 (dart D d t).2 = uppK (barD (dart D d t)) := by
      have := armB_rev (dart D d t).1 a1
      exact armB_end (k := armK (dart D d t).1 (dart D d t).2) (a := 3 - (dart D d t).2) this
    have c2 : (dart D d (t + 1)).1 = lowK (barD (dart D d (t + 1))) ∨ (dart D d (t + 1)).1 = uppK (barD (dart D d (t + 1))) := armB_end (a := (dart D d (t + 1)).2) rfl
    rw [e1] at c2
    unfold Tch
    rcases c1 with c1 | c1 <;> rcases c2 with c2 | c2
    · exact .inl (c1.symm.trans c2)
    · exact .inr (.inl (c1.symm.trans c2))
    · exact .inr (.inr (.inl (c1.symm.trans c2)))
    · exact .inr (.inr (.inr (c1.symm.trans c2)))
structure Mended (N D : List Bar) (W : List Knot) : Prop where
  made : madeE W = 0 ∧ madeL W = D
  one : legC D (holeK D) 1 = 2
  three : legC D (holeK D) 3 = 0
  parts : (partsL D).length = 1
theorem mended_of {N D : List Bar} (hE : tornE N D = 0) {W : List Knot} (h : runO D = some W) : Mended N D W := by
  obtain ⟨V, hV⟩ := res_at hE h
  have hD := netE_ok (torn_nets hE).2
  have hd : ∀ b ∈ D, Sided b := fun b hb => (hD.ok b hb).2.2
  have hr : rdyB D = true := by unfold rdyB; rw [h]; rfl
  have h2 := (rdy_iff.1 hr).1
  have h1 := ready_ends hd hr
  obtain ⟨k, L, _, hA⟩ := run_at h
  have hdc : ∀ q, degN D q = cnt (legsAt D q) := deg_cnt hD.nodup hd
  refine ⟨hV.made, ?_, ?_, ?_⟩
  · rw [← h2]
    unfold legC oddK
    congr 1
    refine List.filter_congr fun q hq => ?_
    rw [hdc]
    cases ho : oddL (legsAt D q) with
    | true =>
      have := h1 q (List.mem_filter.2 ⟨hq, ho⟩)
      simp [this]
    | false =>
      unfold oddL at ho
      have : cnt (legsAt D q) ≠ 1 := fun e => by rw [e] at ho; cases ho
      simp [this]
  · unfold legC
    rw [List.length_eq_zero_iff, List.filter_eq_nil_iff]
    intro q hq e
    rw [hdc] at e
    have e3 : cnt (legsAt D q) = 3 := by simpa using e
    have := h1 q (List.mem_filter.2 ⟨hq, by unfold oddL; rw [e3]; rfl⟩)
    omega
  · refine parts_one hD.sorted hd hA.bar fun x hx => ?_
    have := hA.all x hx
    unfold pathB at this
    obtain ⟨t, ht, rfl⟩ := List.mem_map.1 this
    exact run_conn hA t (List.mem_range.1 ht)
theorem run_err {N D : List Bar} (hE : tornE N D = 0) : (runE N D = 0 ∧ ∃ W, runO D = some W ∧ runL N D = W) ∨ ((runE N D = 18 ∨ runE N D = 7) ∧ runL N D = []) := by
  have f1 : ∀ x : Int, firstI [0, x] = x := fun x => by
    unfold firstI
    rw [if_pos rfl]
    unfold firstI
    by_cases h : x = 0
    · rw [if_pos h, h]; rfl
    · rw [if_neg h]
  have hn : noneE N D = whenI (decide (D.length = 0)) 7 := by unfold noneE; rw [hE, f1]
  by_cases h0 : D.length = 0
  · have e : noneE N D = 7 := by rw [hn, decide_eq_true h0]; rfl
    refine .inr ⟨.inr ?_, ?_⟩
    · unfold runE; rw [e, if_neg (by decide)]
    · unfold runL; rw [e, if_neg (by decide)]
  · have e : noneE N D = 0 := by rw [hn, decide_eq_false h0]; rfl
    cases h : runO D with
    | none =>
      have hr : rdyB D = false := by unfold rdyB; rw [h]; rfl
      refine .inr ⟨.inl ?_, ?_⟩
      · unfold runE; rw [if_pos e, hr]; rfl
      · unfold runL; rw [if_pos e, h]; rfl
    | some W =>
      have hr : rdyB D = true := by unfold rdyB; rw [h]; rfl
      refine .inl ⟨?_, W, rfl, ?_⟩
      · unfold runE; rw [if_pos e, hr]; rfl
      · unfold runL; rw [if_pos e, h]; rfl
end Go.Proofs.YtpompeancmonbaaGreat

/- What motions keep, plain. Conditions: bars within bounds. -/
namespace Go.Proofs.YtpompeancmonbaaGreat
open Go.RowKit Go.ChangeMaps
set_option maxHeartbeats 4000000
set_option maxRecDepth 100000

/-- the bars of a net lie within bounds, on the lattice -/
def NearL (n : Int) (l : List Bar) : Prop := ∀ b ∈ l, (-n ≤ b.1 ∧ b.1 ≤ n) ∧ (-n ≤ b.2.1 ∧ b.2.1 ≤ n) ∧ (b.2.2 = 1 ∨ b.2.2 = -1) ∧ (b.1 + b.2.1) % 2 = 0
theorem farB_no {n : Int} (h : -100000 ≤ n ∧ n ≤ 100000) : farB n = false := by
  unfold farB
  rw [decide_eq_false (by omega), decide_eq_false (by omega)]
  rfl
theorem knotE_yes {x y : Int} (hx : -100000 ≤ x ∧ x ≤ 100000) (hy : -100000 ≤ y ∧ y ≤ 100000) (hp : (x + y) % 2 = 0) : knotE x y = 0 := by
  unfold knotE
  rw [farB_no hx, farB_no hy, if_neg (by simp), if_pos hp]
theorem NearL.bar {n : Int} {l : List Bar} (h : NearL n l) (hn : n ≤ 99000) : ∀ b ∈ l, barE b.1 b.2.1 b.2.2 = 0 := fun b hb => by
  obtain ⟨h1, h2, h3, h4⟩ := h b hb
  unfold barE
  rw [if_neg (by rw [knotE_yes (by omega) (by omega) h4]; simp), if_neg (by omega)]
  exact knotE_yes (by omega) (by omega) (by omega)
theorem NearL.net {n : Int} {l : List Bar} (h : NearL n l) (hn : n ≤ 99000) (hs : l.Pairwise bltP) (hl : l.length ≤ 4096) : netE l = 0 := netE_zero (h.bar hn) hs hl
theorem NearL.sided {n : Int} {l : List Bar} (h : NearL n l) : ∀ b ∈ l, Sided b := fun b hb => (h b hb).2.2.1
theorem NearL.mono {n m : Int} {l : List Bar} (h : NearL n l) (hn : n ≤ m) : NearL m l := fun b hb => by
  obtain ⟨h1, h2, h3, h4⟩ := h b hb
  exact ⟨by omega, by omega, h3, h4⟩
theorem NearL.shift {n m : Int} {l : List Bar} {d : Knot} (h : NearL n l) (h1 : -m ≤ d.1 ∧ d.1 ≤ m) (h2 : -m ≤ d.2 ∧ d.2 ≤ m) (hp : (d.1 + d.2) % 2 = 0) : NearL (n + m) (l.map (shB d)) := fun b hb => by
  obtain ⟨c, hc, rfl⟩ := List.mem_map.1 hb
  obtain ⟨q1, q2, q3, q4⟩ := h c hc
  unfold shB
  simp only
  exact ⟨by omega, by omega, q3, by omega⟩
theorem NearL.mir {n : Int} {l : List Bar} (h : NearL n l) : NearL n (mirN l) := fun b hb => by
  obtain ⟨q1, q2, q3, q4⟩ := h _ ((mirN_mem l b).1 hb)
  unfold mirB at q1 q2 q3 q4
  simp only at q1 q2 q3 q4
  exact ⟨by omega, q2, by omega, by omega⟩
theorem NearL.turn {n : Int} {l : List Bar} (h : NearL n l) : ∀ k : Nat, NearL (n + k) (turnN k l)
  | 0 => by
    have e : turnN 0 l = l := rfl
    rw [e]; exact h.mono (by omega)
  | k + 1 => fun x hx => by
    obtain ⟨b, hb, rfl⟩ := (turnN_mem l x k).1 hx
    obtain ⟨q1, q2, q3, q4⟩ := h.turn k b hb
    rw [turnB_of q3]
    split
    · simp only; exact ⟨by omega, by omega, by simp, by omega⟩
    · simp only; exact ⟨by omega, by omega, by simp, by omega⟩
theorem NearL.frm {n : Int} {l : List Bar} (h : NearL n l) {k : Nat} (hk : k < 8) : NearL (n + 8) (frm l k) := by
  unfold Go.Proofs.YtpompeancmonbaaGreat.frm
  split
  · exact (h.turn k).mono (by omega)
  · exact (h.mir.turn (k - 4)).mono (by omega)
theorem NearL.nrm {n : Int} {l : List Bar} (h : NearL n l) (hn : n ≤ 40000) : allIn (nrm l) = true := by
  unfold allIn
  rw [List.all_eq_true]
  intro x hx
  cases l with
  | nil => simp [Go.Proofs.YtpompeancmonbaaGreat.nrm] at hx
  | cons a r =>
    obtain ⟨p1, p2, p3, p4⟩ := h a (List.mem_cons_self ..)
    unfold Go.Proofs.YtpompeancmonbaaGreat.nrm at hx
    obtain ⟨c, hc, rfl⟩ := List.mem_map.1 hx
    obtain ⟨q1, q2, q3, q4⟩ := h c hc
    unfold inBN shB hdK
    simp only
    rw [farB_no (by omega), farB_no (by omega), farB_no (by omega), farB_no (by omega)]
    rfl
theorem NearL.all {n : Int} {l : List Bar} (h : NearL n l) (hn : n ≤ 30000) : ∀ k, k ≤ 8 → allN l k = true
  | 0, _ => rfl
  | k + 1, hk => by rw [allN, h.all hn k (by omega), (h.frm (by omega)).nrm (by omega)]; rfl
theorem can_near {n : Int} {l : List Bar} (h : NearL n l) (hn : n ≤ 30000) (hE : netE l = 0) : canE l = 0 ∧ canL l = bst l 8 := by
  by_cases e : l = []
  · have h8 : bst l 8 = [] := List.eq_nil_of_length_eq_zero (by have := bst_len l 8; rw [e] at this ⊢; simpa using this)
    unfold canE canL
    rw [if_neg (by omega), if_pos e, if_pos (.inr e), h8]
    exact ⟨rfl, rfl⟩
  · unfold canE canL
    rw [if_neg (by omega), if_neg e, if_pos (h.all hn 8 (Nat.le_refl 8)), if_neg (by rintro (q | q); exact q hE; exact e q), if_pos (h.all hn 8 (Nat.le_refl 8))]
    exact ⟨rfl, rfl⟩
/-- what motions keep -/
structure Inv (l l' : List Bar) : Prop where
  len : l'.length = l.length
  knots : (holeK l').length = (holeK l).length
  meshes : (meshLN l' l').length = (meshLN l l).length
  parts : (partsL l').length = (partsL l).length
  legs : ∀ d, legC l' (holeK l') d = legC l (holeK l) d
  form : bst l' 8 = bst l 8
theorem Inv.trans {a b c : List Bar} (h : Inv a b) (h' : Inv b c) : Inv a c := ⟨h'.len.trans h.len, h'.knots.trans h.knots, h'.meshes.trans h.meshes, h'.parts.trans h.parts, fun d => (h'.legs d).trans (h.legs d), h'.form.trans h.form⟩
theorem inv_of {g : Knot → Knot} {gB : Bar → Bar} (M : Motion g gB) {l l' : List Bar} (hs : l.Pairwise bltP) (hs' : l'.Pairwise bltP) (hd : ∀ b ∈ l, Sided b) (hd' : ∀ b ∈ l', Sided b) (h : Moved gB l l') (hf : bst l' 8 = bst l 8) : Inv l l' :=
  ⟨h.len M hd (sortedB_nodup hs) (sortedB_nodup hs'), h.knots_len M hd, h.meshes_len M hd (sortedB_nodup hs) (sortedB_nodup hs'), by rw [partsL_eq hs' hd', partsL_eq hs hd, h.parts_len M hd], h.legs M hd (sortedB_nodup hs) (sortedB_nodup hs'), hf⟩
theorem inv_shift {l : List Bar} (hs : l.Pairwise bltP) (hd : ∀ b ∈ l, Sided b) (d : Knot) : Inv l (l.map (shB d)) :=
  inv_of (shift_motion d) hs (shift_sorted hs d) hd (shift_sided hd d) (fun _ => List.mem_map) (bst_shift hs hd d)
theorem inv_mir {l : List Bar} (hs : l.Pairwise bltP) (hd : ∀ b ∈ l, Sided b) : Inv l (mirN l) :=
  inv_of mirror_motion hs (mirN_sorted (sortedB_nodup hs)) hd (mirN_sided hd) (fun x => by
    rw [mirN_mem]
    exact ⟨fun h => ⟨mirB x, h, mirB_mirB x⟩, fun ⟨b, hb, e⟩ => by rw [← e, mirB_mirB]; exact hb⟩) (bst_mir hs)
theorem inv_turn1 {l : List Bar} (hs : l.Pairwise bltP) (hd : ∀ b ∈ l, Sided b) : Inv l (turnN 1 l) :=
  inv_of turn_motion hs (turnN_sorted hs hd 1) hd (turnN_sided hd 1) (fun x => turnN_mem l x 0) (bst_turn1 hs hd)
theorem Inv.refl (l : List Bar) : Inv l l := ⟨rfl, rfl, rfl, rfl, fun _ => rfl, rfl⟩
theorem inv_turn {l : List Bar} (hs : l.Pairwise bltP) (hd : ∀ b ∈ l, Sided b) : ∀ k, Inv l (turnN k l)
  | 0 => Inv.refl l
  | k + 1 => by
    have h1 := inv_turn hs hd k
    have h2 := inv_turn1 (turnN_sorted hs hd k) (turnN_sided hd k)
    rw [turnN_add, show 1 + k = k + 1 by omega] at h2
    exact h1.trans h2
theorem Inv.cnt {l l' : List Bar} (h : Inv l l') (h1 : netE l = 0) (h2 : netE l' = 0) : cntA l' = cntA l := by
  unfold cntA
  rw [if_pos h1, if_pos h2, h.len, h.knots, h.meshes, h.parts]
theorem Inv.leg {l l' : List Bar} (h : Inv l l') (h1 : netE l = 0) (h2 : netE l' = 0) : legsR l' = legsR l := by
  unfold legsR legA
  rw [if_pos h1, if_pos h2]
  simp only [h.legs]
theorem shift_back (l : List Bar) (x y : Int) : (l.map (shB (x, y))).map (shB (-x, -y)) = l := by
  rw [List.map_map]
  have : (shB (-x, -y) ∘ shB (x, y)) = id := by
    funext b
    obtain ⟨p, q, s⟩ := b
    simp only [Function.comp, shB, id]
    rw [show p + x + -x = p by omega, show q + y + -y = q by omega]
  rw [this, List.map_id]
theorem qN_neg (q : Int) : (qN (-q) + qN q) % 4 = 0 := by
  have h1 := Int.neg_tmod q 4
  have h2 : -4 < q.tmod 4 ∧ q.tmod 4 < 4 := by
    have a := Int.tmod_lt_of_pos q (b := 4) (by omega)
    have b := Int.tmod_lt_of_pos (-q) (b := 4) (by omega)
    omega
  have h3 : ∀ z : Int, 0 ≤ z → z.tmod 4 = z % 4 := fun z hz => Int.tmod_eq_emod_of_nonneg hz
  unfold qN
  rw [h1, h3 (-(q.tmod 4) + 4) (by omega), h3 (q.tmod 4 + 4) (by omega)]
  omega
end Go.Proofs.YtpompeancmonbaaGreat

/- A net's numbers, plain. Conditions: the net has no error. -/
namespace Go.Proofs.YtpompeancmonbaaGreat
open Go.RowKit Go.ChangeMaps
set_option maxHeartbeats 4000000
set_option maxRecDepth 100000

/-- a net's numbers -/
structure Nums (l : List Bar) (kn bn mn pn : Nat) (hn : Int) : Prop where
  cnt : cntA l = #[.int .i64 kn, .int .i64 bn, .int .i64 mn, .int .i64 pn, .int .i64 hn]
  knots : (holeK l).length = kn
  bars : l.length = bn
  meshes : (meshLN l l).length = mn
  parts : (partsL l).length = pn
  holes : hn = (bn : Int) - kn + pn - mn
  pos : 0 ≤ hn
  cyc : (mn : Int) + hn = cyc l
  kle : kn ≤ 2 * bn
  mle : mn ≤ bn
  ple : pn ≤ bn
theorem meshL_length (l m : List Bar) : (meshLN l m).length = (m.filter (isMesh l)).length := by unfold meshLN; rw [List.length_map]
theorem nums_of {l : List Bar} (hE : netE l = 0) : ∃ kn bn mn pn hn, Nums l kn bn mn pn hn := by
  have hok := netE_ok hE
  have hd : ∀ b ∈ l, Sided b := fun b hb => (hok.ok b hb).2.2
  have hp := partsL_eq hok.sorted hd
  have hm := mesh_le hok.sorted
  rw [← meshL_length] at hm
  have hc : ((meshLN l l).length : Int) + ((l.length : Int) - (holeK l).length + (partsL l).length - (meshLN l l).length) = cyc l := by
    unfold cyc
    rw [hp]
    omega
  refine ⟨(holeK l).length, l.length, (meshLN l l).length, (partsL l).length, (l.length : Int) - (holeK l).length + (partsL l).length - (meshLN l l).length, ?_, rfl, rfl, rfl, rfl, rfl, by omega, hc, holeK_lenN l, meshL_len l l, prtO_len l _⟩
  unfold cntA
  rw [if_pos hE]
structure LegNums (l : List Bar) (a b c d : Nat) : Prop where
  legs : legsR l = #[.int .i64 0, .int .i64 a, .int .i64 b, .int .i64 c, .int .i64 d]
  sum : a + b + c + d = (holeK l).length
  deg : a + 2 * b + 3 * c + 4 * d = 2 * l.length
theorem legs_of {l : List Bar} (hE : netE l = 0) : ∃ a b c d, LegNums l a b c d := by
  have hok := netE_ok hE
  have hd : ∀ b ∈ l, Sided b := fun b hb => (hok.ok b hb).2.2
  have h4 : ∀ k ∈ holeK l, degN l k ≤ 4 := fun k _ => degN_le hok.nodup hd k
  have h1 := legs_sum l (holeK l) h4
  have h2 := legs_deg l (holeK l) h4
  have h3 := deg_sum (sortedK_nodup (holeK_sorted l)) l (fun b hb => ⟨(holeK_ends l _).2 ⟨b, hb, .inl rfl⟩, (holeK_ends l _).2 ⟨b, hb, .inr rfl⟩⟩)
  have h0 := leg_zero l
  refine ⟨legC l (holeK l) 1, legC l (holeK l) 2, legC l (holeK l) 3, legC l (holeK l) 4, ?_, by omega, by omega⟩
  unfold legsR legA
  rw [if_pos hE, h0]
  rfl
/-- without one bar -/
theorem rank_of {l : List Bar} (hE : netE l = 0) {b : Bar} (hb : b ∈ l) {kn bn mn pn kn' bn' mn' pn' : Nat} {hn hn' : Int} (h : Nums l kn bn mn pn hn) (h' : Nums (wout l [b]) kn' bn' mn' pn' hn') :
    bn = bn' + 1 ∧ ((mn : Int) + hn - mn' - hn' = 0 ∨ (mn : Int) + hn - mn' - hn' = 1 ∧ kn' = kn ∧ pn' = pn) := by
  have hok := netE_ok hE
  obtain ⟨h1, h2, h3⟩ := less_one hok.sorted hb
  have hd : ∀ b ∈ l, Sided b := fun b hb => (hok.ok b hb).2.2
  have hd' : ∀ x ∈ wout l [b], Sided x := fun x hx => hd x ((h2 x).2 (.inr hx))
  have c1 := h.cyc
  have c2 := h'.cyc
  have e1 := h.bars
  have e2 := h'.bars
  have p1 := h.parts
  have p2 := h'.parts
  rw [partsL_eq hok.sorted hd] at p1
  rw [partsL_eq h3 hd'] at p2
  refine ⟨by omega, ?_⟩
  rcases cyc_more h1 h2 with q | ⟨q, q2, q3⟩
  · exact .inl (by omega)
  · exact .inr ⟨by omega, by rw [← h.knots, ← h'.knots, q2], by rw [← p1, ← p2, q3]⟩
/-- the knots of the first parts -/
def kSum (Ls : List (List Bar)) : Nat := (Ls.map fun P => (holeK P).length).sum
theorem kSum_take {Ls : List (List Bar)} {k : Nat} (h : k < Ls.length) : kSum (Ls.take (k + 1)) = kSum (Ls.take k) + (holeK Ls[k]).length := by
  unfold kSum
  rw [List.take_succ_eq_append_getElem h, List.map_append, List.sum_append]
  simp
structure PartsOk (l : List Bar) (Ls : List (List Bar)) : Prop where
  pos : 1 ≤ Ls.length
  net : ∀ P ∈ Ls, netE P = 0 ∧ P ≠ [] ∧ P.length ≤ l.length
  up : ∀ (i j : Nat) (hi : i < Ls.length) (hj : j < Ls.length), i < j → ∃ a b, Ls[i].head? = some a ∧ Ls[j].head? = some b ∧ bltP a b
  knots : kSum Ls = (holeK l).length
  len : Ls.flatten.length = l.length
  set : setB Ls.flatten = l
theorem parts_ok {l : List Bar} (hE : netE l = 0) (hl : l ≠ []) : PartsOk l (partsL l) := by
  have hok := netE_ok hE
  have hd : ∀ b ∈ l, Sided b := fun b hb => (hok.ok b hb).2.2
  rw [partsL_eq hok.sorted hd]
  refine ⟨prt_pos hl, fun P hP => ?_, fun i j hi hj hij => List.pairwise_iff_getElem.1 (heads_up hok.sorted) i j hi hj hij, prt_knots hok.sorted, prt_len hok.sorted, prt_set hok.sorted⟩
  obtain ⟨f1, f2, f3⟩ := part_facts hok.sorted hP
  exact ⟨netE_subN hE f2 f3, f1, length_le_of_sub (sortedB_nodup f2) f3⟩
theorem flat_take_le {Ls : List (List Bar)} (k : Nat) : (Ls.take k).flatten.length ≤ Ls.flatten.length := by
  conv => rhs; rw [← List.take_append_drop k Ls, List.flatten_append, List.length_append]
  omega
theorem kSum_le {Ls : List (List Bar)} (k : Nat) : kSum (Ls.take k) ≤ kSum Ls := by
  unfold kSum
  conv => rhs; rw [← List.take_append_drop k Ls, List.map_append, List.sum_append]
  omega
end Go.Proofs.YtpompeancmonbaaGreat

/- Motions of a net: what the law looks at; numbers, legs, forms, shifts without errors. Conditions: the net has no error. -/
namespace Go.Proofs.YtpompeancmonbaaGreat
open Go.RowKit Go.ChangeMaps
set_option maxHeartbeats 4000000
set_option maxRecDepth 100000

theorem aCount {v : Value} (l : List Bar) (w : World) (h : SlB w v l) (hE : netE l = 0) : Calls Tryz.prog 27 #[v] w (RLEN w (cntA l) 0) := by
  have := apiCount_any l w h
  rwa [hE] at this
theorem aLegs {v : Value} (l : List Bar) (w : World) (h : SlB w v l) (hE : netE l = 0) : Calls Tryz.prog 22 #[v] w (RLEN w (legsR l) 0) := by
  have := apiLegs_any l w h
  rwa [hE] at this
theorem aShift {v : Value} (l : List Bar) (x y : Int) (w : World) (h : SlB w v l) (hE : netE l = 0) (hk : knotE x y = 0) (ha : allIn (l.map (shB (x, y))) = true) : Calls Tryz.prog 7 #[v, .agg #[.int .i64 x, .int .i64 y]] w (RBE w (l.map (shB (x, y))) 0) := by
  have h1 : degE l x y = 0 := by unfold degE; rw [hE, hk]; rfl
  have e1 : shiftE l x y = 0 := by unfold shiftE shE; rw [if_pos h1]; simp [ha]
  have e2 : shiftL l x y = l.map (shB (x, y)) := by unfold shiftL shL; rw [if_pos h1]; simp [ha]
  have := apiShift_any l x y w h
  rwa [e1, e2] at this
theorem NearL.inn {n : Int} {l : List Bar} (h : NearL n l) (hn : n ≤ 90000) : allIn l = true := by
  unfold allIn
  rw [List.all_eq_true]
  intro b hb
  obtain ⟨h1, h2, h3, h4⟩ := h b hb
  unfold inBN
  rw [farB_no (by omega), farB_no (by omega), farB_no (by omega), farB_no (by omega)]
  rfl
/-- what a motion of a net has in common with the net -/
structure Like (l X : List Bar) : Prop where
  net : netE X = 0
  cnt : cntA X = cntA l
  legs : legsR X = legsR l
  can : canL X = canL l
  canE : canE X = 0
  len : X.length = l.length
theorem like_of {l X : List Bar} (hl : NearL 1000 l) (hE : netE l = 0) (hX : NearL 3000 X) (hs : X.Pairwise bltP) (hI : Inv l X) (hlen : l.length ≤ 20) : Like l X := by
  have h1 : netE X = 0 := hX.net (by omega) hs (by rw [hI.len]; omega)
  have c1 := can_near (hl.mono (m := 3000) (by omega)) (by omega) hE
  have c2 := can_near hX (by omega) h1
  exact ⟨h1, hI.cnt hE h1, hI.leg hE h1, by rw [c1.2, c2.2, hI.form], c2.1, hI.len⟩
theorem near_of {l : List Bar} (hE : netE l = 0) (h : ∀ b ∈ l, (-1000 ≤ b.1 ∧ b.1 ≤ 1000) ∧ (-1000 ≤ b.2.1 ∧ b.2.1 ≤ 1000)) : NearL 1000 l := fun b hb => by
  have h1 := netE_bars hE b hb
  have h2 := ((netE_ok hE).ok b hb).2.2
  have h3 : knotE b.1 b.2.1 = 0 := by
    unfold barE at h1
    split at h1
    · rename_i q; exact absurd h1 q
    · rename_i q; exact Decidable.byContradiction fun e => q e
  exact ⟨(h b hb).1, (h b hb).2, h2, (knotE_zero h3).2.2.2.2⟩
/-- all that the law looks at -/
structure Turns (l : List Bar) (x y q : Int) : Prop where
  s : Like l (l.map (shB (x, y)))
  m : Like l (mirN l)
  t : Like l (turnN (qN q) l)
  can : canE l = 0
  inn : allIn (l.map (shB (x, y))) = true
  sBack : (l.map (shB (x, y))).map (shB (-x, -y)) = l
  innB : allIn l = true
  mBack : mirN (mirN l) = l
  tBack : turnN (qN (-q)) (turnN (qN q) l) = l
  once : netE (turnN 1 (mirN l)) = 0
  twice : netE (mirN (turnN 1 (mirN l))) = 0
  back : turnN 1 (mirN (turnN 1 (mirN l))) = l
  len1 : (turnN 1 (mirN l)).length = l.length
  len2 : (mirN (turnN 1 (mirN l))).length = l.length
theorem qN_le (q : Int) : qN q ≤ 3 := by
  have h1 := Int.tmod_lt_of_pos (q.tmod 4 + 4) (b := 4) (by decide)
  unfold qN
  omega
theorem turns_of {l : List Bar} {x y q : Int} (hE : netE l = 0) (hN : NearL 1000 l) (hlen : l.length ≤ 20) (hx : -1000 ≤ x ∧ x ≤ 1000) (hy : -1000 ≤ y ∧ y ≤ 1000) (hk : knotE x y = 0) : Turns l x y q := by
  have hok := netE_ok hE
  have hs := hok.sorted
  have hd := hN.sided
  have hp := (knotE_zero hk).2.2.2.2
  have ns : NearL (1000 + 1000) (l.map (shB (x, y))) := hN.shift hx hy hp
  have nm := hN.mir
  have q3 := qN_le q
  have nt := hN.turn (qN q)
  have n1 := nm.turn 1
  have n2 := n1.mir
  have sm := mirN_sorted hok.nodup
  have dm := mirN_sided hd
  have s1 := turnN_sorted sm dm 1
  have s2 := mirN_sorted (sortedB_nodup s1)
  have L1 : (turnN 1 (mirN l)).length = l.length := by rw [turnN_len, mirN_eq, srtB_length, List.length_map]
  have L2 : (mirN (turnN 1 (mirN l))).length = l.length := by rw [mirN_eq, srtB_length, List.length_map, L1]
  exact {
    s := like_of hN hE (ns.mono (by omega)) (shift_sorted hs _) (inv_shift hs hd _) hlen
    m := like_of hN hE (nm.mono (by omega)) sm (inv_mir hs hd) hlen
    t := like_of hN hE (nt.mono (by omega)) (turnN_sorted hs hd _) (inv_turn hs hd _) hlen
    can := (can_near (hN.mono (m := 3000) (by omega)) (by omega) hE).1
    inn := ns.inn (by omega)
    sBack := shift_back l x y
    innB := hN.inn (by omega)
    mBack := mirN_mirN hs
    tBack := turn_back hs hd (qN_neg q)
    once := n1.net (by omega) s1 (by omega)
    twice := n2.net (by omega) s2 (by omega)
    back := mir_turn_back hs hd
    len1 := L1
    len2 := L2 }
end Go.Proofs.YtpompeancmonbaaGreat

/- Unions and their like without errors. Conditions: the nets have no error. -/
namespace Go.Proofs.YtpompeancmonbaaGreat
open Go.RowKit Go.ChangeMaps
set_option maxHeartbeats 4000000
set_option maxRecDepth 100000

theorem wout_le (a b : List Bar) : (wout a b).length ≤ a.length := List.length_filter_le _ _
theorem meetL_le (a b : List Bar) : (meetL a b).length ≤ a.length := List.length_filter_le _ _
theorem put_zero {K : Bool → Bool → Bool} {a b L : List Bar} (h : twoEN a b = 0) (hm : mergeL K a b = L) (hl : L.length ≤ 4096) : putE K a b = 0 ∧ putL K a b = L := by
  have h1 : putE K a b = 0 := by unfold putE; rw [if_neg (by simp [h]), hm, if_neg (by omega)]
  exact ⟨h1, by unfold putL; rw [if_pos h1, hm]⟩
theorem only_ok {α : Type} (l : List α) : onlyOk 0 l = l := rfl
@[go_sem] theorem eqCN (a b c d e : Int) (w : World) : (Op.equalIn 10000 69 (.agg #[.int .i64 a, .int .i64 b, .int .i64 c, .int .i64 d, .int .i64 e]) (.agg #[.int .i64 a, .int .i64 b, .int .i64 c, .int .i64 d, .int .i64 e])).run Tryz.prog w = .ok true w := by
  rw [run_equalIn_struct w 9999 69 _ _ (by kernel_rfl) (by kernel_rfl)]
  simp [go_sem]
theorem two_zeroN {a b : List Bar} (ha : netE a = 0) (hb : netE b = 0) : twoEN a b = 0 := by unfold twoEN; rw [ha, hb]; rfl
theorem aUnion {v u : Value} (a b : List Bar) (w : World) (h : SlB w v a) (h' : SlB w u b) (ha : netE a = 0) (hb : netE b = 0) (hl : a.length + b.length ≤ 4096) : Calls Tryz.prog 26 #[v, u] w (RBE w (setB (a ++ b)) 0) := by
  have hul : (setB (a ++ b)).length ≤ 4096 := by have := setB_len (a ++ b); simp at this; omega
  obtain ⟨e1, e2⟩ := put_zero (two_zeroN ha hb) (merge_union (netE_ok ha).sorted (netE_ok hb).sorted) hul
  have := apiUnion_any a b w h h'
  rwa [e1, e2] at this
theorem aMinus {v u : Value} (a b : List Bar) (w : World) (h : SlB w v a) (h' : SlB w u b) (ha : netE a = 0) (hb : netE b = 0) : Calls Tryz.prog 17 #[v, u] w (RBE w (wout a b) 0) := by
  obtain ⟨e1, e2⟩ := put_zero (two_zeroN ha hb) (merge_minus (netE_ok ha).sorted (netE_ok hb).sorted) (Nat.le_trans (wout_le a b) (netE_ok ha).len)
  have := apiMinus_any a b w h h'
  rwa [e1, e2] at this
theorem aMeet {v u : Value} (a b : List Bar) (w : World) (h : SlB w v a) (h' : SlB w u b) (ha : netE a = 0) (hb : netE b = 0) : Calls Tryz.prog 25 #[v, u] w (RBE w (meetL a b) 0) := by
  obtain ⟨e1, e2⟩ := put_zero (two_zeroN ha hb) (merge_meet (netE_ok ha).sorted (netE_ok hb).sorted) (Nat.le_trans (meetL_le a b) (netE_ok ha).len)
  have := apiMeet_any a b w h h'
  rwa [e1, e2] at this
theorem aDegree {v : Value} (a : List Bar) (x y : Int) (w : World) (h : SlB w v a) (ha : netE a = 0) (hk : knotE x y = 0) : Calls Tryz.prog 20 #[v, .agg #[.int .i64 x, .int .i64 y]] w (RV w (.tuple #[.int .i64 (degN a (x, y) : Nat), .int .i64 0])) := by
  have e1 : degE a x y = 0 := by unfold degE; rw [ha, hk]; rfl
  have e2 : degR a x y = degN a (x, y) := by unfold degR; rw [if_pos e1]
  have := degree_any a x y w h
  rwa [e1, e2] at this
theorem aNet {v : Value} (a : List Bar) (w : World) (h : SlB w v a) (ha : netE a = 0) : Calls Tryz.prog 11 #[v] w (RV w (.int .i64 0)) := by
  have := rnet_sl a w h
  rwa [ha] at this
theorem aSame {v u : Value} (a b : List Bar) (w : World) (h : SlB w v a) (h' : SlB w u b) (e : a = b) : Calls Tryz.prog 18 #[v, u] w (RV w (.bool true)) := by
  have := sameBars_anyN a b w h h'
  rwa [decide_eq_true e] at this
theorem netE_union {a b : List Bar} (ha : netE a = 0) (hb : netE b = 0) (hl : a.length + b.length ≤ 4096) : netE (setB (a ++ b)) = 0 := by
  refine netE_zero (fun x hx => ?_) (setB_sorted _) (by have := setB_len (a ++ b); simp at this; omega)
  rw [setB_mem, List.mem_append] at hx
  rcases hx with hx | hx
  · exact netE_bars ha x hx
  · exact netE_bars hb x hx
theorem netE_meet {a b : List Bar} (ha : netE a = 0) : netE (meetL a b) = 0 := netE_subN ha ((netE_ok ha).sorted.filter _) fun x hx => ((meet_mem a b x).1 hx).1
theorem netE_wout {a b : List Bar} (ha : netE a = 0) : netE (wout a b) = 0 := netE_subN ha ((netE_ok ha).sorted.filter _) fun x hx => ((wout_memN a b x).1 hx).1
theorem degN_small (l : List Bar) (k : Knot) : degN l k ≤ 2 * l.length := by
  have h1 : (endsL l).count k ≤ (endsL l).length := List.count_le_length
  rw [endsL_len] at h1
  exact h1
end Go.Proofs.YtpompeancmonbaaGreat

/- How many knots have each degree, of the program, walked. Conditions: the slices read as lists. -/
import Derived.Test.YtpompeancmonbaaGreatE08
import Derived.Test.YtpompeancmonbaaGreatE17
import Derived.Test.YtpompeancmonbaaGreatE23
import Derived.Test.YtpompeancmonbaaGreatE22
import Derived.Test.YtpompeancmonbaaGreatE24
import Derived.Test.YtpompeancmonbaaGreatE26
import Derived.Test.YtpompeancmonbaaGreatE14
import Derived.Test.YtpompeancmonbaaGreatE29
import Derived.Test.YtpompeancmonbaaGreatE28
import Derived.Deep.CutRange
namespace Go.Proofs.YtpompeancmonbaaGreat
open Go.RowKit Go.ChangeMaps
set_option maxHeartbeats 4000000
set_option maxRecDepth 100000

/-- a bar ends at a knot -/
def atB (k : Knot) (b : Bar) : Bool := decide (lowK b = k) || decide (uppK b = k)
theorem degN_eq (k : Knot) : ∀ l : List Bar, degN l k = l.countP (atB k)
  | [] => rfl
  | b :: r => by
    have ih := degN_eq k r
    have hne := low_ne_upp b
    unfold degN at ih ⊢
    rw [List.countP_cons, ← ih]
    show List.count k ([lowK b, uppK b] ++ endsL r) = _
    rw [List.count_append]
    have e1 : ∀ (p q : Knot), List.count k [p, q] = (if p = k then 1 else 0) + if q = k then 1 else 0 := fun p q => by
      rw [List.count_cons, List.count_cons, List.count_nil]
      simp only [beq_iff_eq]
      omega
    rw [e1]
    have e2 : (if atB k b = true then 1 else 0) = (if lowK b = k then 1 else 0) + if uppK b = k then 1 else 0 := by
      unfold atB
      by_cases h1 : lowK b = k
      · have h2 : ¬ uppK b = k := fun e => hne (h1.trans e.symm)
        simp [h1, h2]
      · by_cases h2 : uppK b = k
        · simp [h1, h2]
        · simp [h1, h2]
    omega
theorem at_arm {b : Bar} (hb : Sided b) {k : Knot} (h : atB k b = true) : b ∈ [armB k 0, armB k 1, armB k 2, armB k 3] := by
  obtain ⟨x, y, s⟩ := b
  obtain ⟨kx, ky⟩ := k
  simp only [atB, lowK, uppK, Bool.or_eq_true, decide_eq_true_eq, Prod.mk.injEq] at h
  simp only [armB, List.mem_cons, List.not_mem_nil, or_false, Prod.mk.injEq]
  rcases hb with h1 | h1 <;> simp only at h1 <;> subst h1 <;> omega
theorem degN_le {l : List Bar} (hn : l.Nodup) (hs : ∀ b ∈ l, Sided b) (k : Knot) : degN l k ≤ 4 := by
  rw [degN_eq, List.countP_eq_length_filter]
  exact length_le_of_sub (D := [armB k 0, armB k 1, armB k 2, armB k 3]) (hn.filter _) fun b hb => by
    obtain ⟨h1, h2⟩ := List.mem_filter.1 hb
    exact at_arm (hs b h1) h2
theorem degN_pos (l : List Bar) (k : Knot) : 0 < degN l k ↔ k ∈ holeK l := by
  unfold degN
  rw [List.count_pos_iff, endsL_mem]
  unfold holeK
  rw [holeIn_mem]
  simp
/-- how many of some knots have a degree -/
def legC (l : List Bar) (K : List Knot) (d : Nat) : Nat := (K.filter fun k => degN l k == d).length
theorem legC_snoc (l : List Bar) (K : List Knot) (k : Knot) (d : Nat) : legC l (K ++ [k]) d = legC l K d + if degN l k = d then 1 else 0 := by
  unfold legC
  rw [List.filter_append, List.length_append]
  by_cases h : degN l k = d <;> simp [h]
theorem legC_perm {l : List Bar} {K K' : List Knot} (h1 : K.Nodup) (h2 : K'.Nodup) (h : ∀ k, k ∈ K ↔ k ∈ K') (d : Nat) : legC l K d = legC l K' d := by
  unfold legC
  exact Nat.le_antisymm (length_le_of_sub (h1.filter _) fun x hx => by simp only [List.mem_filter] at hx ⊢; exact ⟨(h x).1 hx.1, hx.2⟩)
    (length_le_of_sub (h2.filter _) fun x hx => by simp only [List.mem_filter] at hx ⊢; exact ⟨(h x).2 hx.1, hx.2⟩)
def legA (l : List Bar) (K : List Knot) : Array Value := #[.int .i64 (legC l K 0 : Nat), .int .i64 (legC l K 1 : Nat), .int .i64 (legC l K 2 : Nat), .int .i64 (legC l K 3 : Nat), .int .i64 (legC l K 4 : Nat)]
theorem legA_get (l : List Bar) (K : List Knot) {d : Nat} (h : d < 5) : (legA l K)[d]? = some (.int .i64 (legC l K d : Nat)) := by
  obtain rfl | rfl | rfl | rfl | rfl : d = 0 ∨ d = 1 ∨ d = 2 ∨ d = 3 ∨ d = 4 := by omega
  all_goals rfl
theorem legA_set (l : List Bar) (K : List Knot) (k : Knot) {d : Nat} (h : d < 5) (hd : degN l k = d) : (legA l K).setIfInBounds d (.int .i64 ((legC l K d : Nat) + 1 : Int)) = legA l (K ++ [k]) := by
  have q : ∀ n, legC l (K ++ [k]) n = legC l K n + if d = n then 1 else 0 := fun n => by rw [legC_snoc, hd]
  obtain rfl | rfl | rfl | rfl | rfl : d = 0 ∨ d = 1 ∨ d = 2 ∨ d = 3 ∨ d = 4 := by omega
  all_goals simp [legA, q]
theorem mget_of_mem {κ ν : Type} [DecidableEq κ] : ∀ {m : List (κ × ν × Nat)}, (mkeys m).Nodup → ∀ {x : κ × ν × Nat}, x ∈ m → mget x.1 m = some x.2.1
  | [], _, _, h => by simp at h
  | y :: r, hn, x, h => by
    have hn' : y.1 ∉ mkeys r ∧ (mkeys r).Nodup := by simpa [mkeys] using hn
    unfold mget
    rcases List.mem_cons.1 h with rfl | h1
    · rw [if_pos rfl]
    · rw [if_neg (fun e => hn'.1 (by rw [← e]; exact List.mem_map.2 ⟨x, h1, rfl⟩))]
      exact mget_of_mem hn'.2 h1
def zer5 : Array Value := #[.int .i64 0, .int .i64 0, .int .i64 0, .int .i64 0, .int .i64 0]
/-- the numbers of the degrees, as an array's value, and an error -/
def RLEN (w : World) (cs : Array Value) (n : Int) (e : Ending) (w' : World) : Prop := e = .returned (.tuple #[.agg cs, .int .i64 n]) ∧ Below w.heap.size w w'
def legsR (l : List Bar) : Array Value := if netE l = 0 then legA l (holeK l) else zer5
theorem apiLegs_any {v : Value} (l : List Bar) (w : World) (h : SlB w v l) : Calls Tryz.prog 22 #[v] w (RLEN w (legsR l) (netE l)) := by
  have hB := Blk.new w 62 #[.int .i64 0, .int .i64 0, .int .i64 0, .int .i64 0, .int .i64 0]
  have h0 := h.alloc (.cells #[.int .i64 0, .int .i64 0, .int .i64 0, .int .i64 0, .int .i64 0] 62)
  have fB := hB.facts
  by_cases hE : netE l = 0
  · have hok := netE_ok hE
    have hE' : (netE l != 0) = false := by simp [hE]
    have HS : Hid (legsR l = legA l (holeK l) ∧ netE l = 0) := by unfold Hid legsR; rw [if_pos hE]; exact ⟨rfl, hE⟩
    have HO := Lib.hid hok
    clear hE
    go_enter Tryz.func22, Tryz.ntmps22
    go_wp2_with (go_at_call 35; refine (nnet_sl l _ h0).mono ?_; rintro e w1 ⟨rfl, hb1⟩; (first | replace hB := hB.st0 hb1 | replace hB := hB.st1 hb1 | replace hB := hB.std hb1 | replace hB := hB.std1 hb1 | replace hB := hB.st2 hb1 | replace hB := hB.std2 hb1 | replace hB := hB.st3 hb1); have kB := hB.facts; (first | replace h0 := h0.st0 hb1 | replace h0 := h0.st1 hb1 | replace h0 := h0.std hb1 | replace h0 := h0.std1 hb1 | replace h0 := h0.st2 hb1 | replace h0 := h0.std2 hb1 | replace h0 := h0.st3 hb1))
    have hG := Blk.new w1 62 #[.int .i64 0, .int .i64 0, .int .i64 0, .int .i64 0, .int .i64 0]
    have hBa := hB.alloc (.cells #[.int .i64 0, .int .i64 0, .int .i64 0, .int .i64 0, .int .i64 0] 62)
    refine (degrees_any l _ (h0.alloc _) hok.ok hok.len1).mono ?_
    rintro e w2 ⟨r, m, c, rfl, hr, hM, hokM, hg, hb2⟩
    have hG2 := hG.below hb2
    have hB2 := hBa.below hb2
    have hsz : w.heap.size < w1.heap.size := hB.lt
    have hlt := hM.lt
    have hbw2 : Below w.heap.size w w2 := by (repeat (first | exact bl_refl | assumption | (apply bl_then; assumption) | refine bl_alloc ?_ _ | refine bl_drew ?_ | refine bl_drewN ?_ _))
    have HM := Lib.hid (And.intro hokM hg)
    have hrg := run_range_map (P := Tryz.prog) hM und_kint
    have hst := RngAt.start (κ := Knot) (ν := Nat) (w := w2) (rk := r) hokM
    simp only [World.size_alloc] at hr
    clear hokM hg hBa hG hB fB
    go_wp2
    have hGa := hG2.alloc (.mapIter (some r) c #[] c)
    have hBa := hB2.alloc (.mapIter (some r) c #[] c)
    have hMa := hM.alloc (.mapIter (some r) c #[] c)
    have hmne : w2.heap.size ≠ r := by omega
    clear hrg
    go_loopw [] (fun wr => ∃ done, RngAt wr w2.heap.size r m c done ∧ Blk wr w1.heap.size 62 (legA l done) ∧ Blk wr w.heap.size 62 zer5 ∧ MapAt kk cntV wr r m c ∧ Below w.heap.size w wr) (fun wr => m.length - seenN wr w2.heap.size)
    case atStart => exact ⟨[], hst, hGa, hBa, hMa, by (repeat (first | exact bl_refl | assumption | (apply bl_then; assumption) | refine bl_alloc ?_ _ | refine bl_drew ?_ | refine bl_drewN ?_ _))⟩
    case round =>
      clear hst hGa hBa hMa hG2 hB2
      obtain ⟨done, hR, hGr, hBr, hMr, hbw⟩ := hrel
      obtain ⟨wq, rfl⟩ : ∃ x, x = wr := ⟨_, rfl⟩
      rcases rng_next (P := Tryz.prog) hR hMr HM.out.1 hmne with ⟨hall, hrun⟩ | ⟨⟨⟨kx, ky⟩, d, st⟩, hx, hnd, w3, hrun, hen, hch, hR1⟩
      · have hE : Hid (legA l done = legA l (holeK l)) := by
          have hp : ∀ d, legC l done d = legC l (holeK l) d := legC_perm hR.nodup (sortedK_nodup (holeK_sorted l)) fun k => by
            have h1 := @mget_none _ _ _ k m
            rw [HM.out.2 k] at h1
            rw [← degN_pos]
            constructor
            · intro hk
              have := hR.sub k hk
              unfold cntO at h1
              split at h1
              · exact absurd this (h1.1 rfl)
              · omega
            · intro hk
              refine hall k ?_
              unfold cntO at h1
              rw [if_neg (by omega)] at h1
              by_cases hm : k ∈ mkeys m
              · exact hm
              · exact absurd (h1.2 hm) (by simp)
          unfold Hid legA
          rw [hp, hp, hp, hp, hp]
        rw [hE.out] at hGr
        have fG := hGr.facts
        unfold legA at fG
        clear hall
        have hld : ∀ i, wq.cell? ⟨w1.heap.size, i, none⟩ = (legA l (holeK l))[i]? := fun i => hGr.cell i
        unfold legA at hld
        go_wp2_with (refine wpList_store_blk hBr rfl _ _ _ rfl rfl rfl (by rfl) (by kernel_rfl) (by kernel_rfl) ?_; intro w4 hR4 hc4; have fR4 := hR4.facts)
        have hb4 : Below w.heap.size w w4 := ((Chg.of_below hbw).trans (hc4.mono (S' := [w.heap.size]) (by simp))).below (by simp) (Nat.le_refl _)
        refine bodyPost_ret (v := .tuple #[.agg #[.int .i64 (legC l (holeK l) 0 : Nat), .int .i64 (legC l (holeK l) 1 : Nat), .int .i64 (legC l (holeK l) 2 : Nat), .int .i64 (legC l (holeK l) 3 : Nat), .int .i64 (legC l (holeK l) 4 : Nat)], .int .i64 0]) (by simp [results, Tryz.results22, go_sem, fR4]) rfl ?_
        exact ⟨by rw [HS.out.1, HS.out.2]; rfl, hb4⟩
      · have hgm := mget_of_mem HM.out.1.keys hx
        rw [HM.out.2 (kx, ky)] at hgm
        have hd : degN l (kx, ky) = d := by
          unfold cntO at hgm
          split at hgm
          · cases hgm
          · exact Option.some.inj hgm
        have hd5 : d < 5 := by have := degN_le HO.out.nodup (fun b hb => (HO.out.ok b hb).2.2) (kx, ky); omega
        have hlm : done.length < m.length := by
          have := length_le_of_sub hR1.nodup hR1.sub
          rw [mkeys_length, List.length_append] at this
          simp only [List.length_cons, List.length_nil] at this
          omega
        have hdl : legC l done d ≤ 20000 := by
          have h1 : done.length ≤ (holeK l).length := length_le_of_sub hR.nodup fun k hk => by
            have h1 := @mget_none _ _ _ k m
            rw [HM.out.2 k] at h1
            rw [← degN_pos]
            have := hR.sub k hk
            unfold cntO at h1
            split at h1
            · exact absurd this (h1.1 rfl)
            · omega
          have h2 : (holeK l).length ≤ 2 * l.length := by
            have := kIn_len l (2 * l.length)
            rwa [kIn_all (Nat.le_refl _)] at this
          have h3 : legC l done d ≤ done.length := List.length_filter_le _ _
          have h4 := HO.out.len
          omega
        have hset := Lib.hid (legA_set l done (kx, ky) hd5 hd)
        obtain ⟨cv, hcv⟩ : ∃ cv, legC l done d = cv := ⟨_, rfl⟩
        have hld := legA_get l done hd5
        rw [hcv] at hld hdl hset
        have hG1 := hGr.chg hch (by simp; omega)
        have hB1 := hBr.chg hch (by simp; omega)
        have hM1 := hMr.chg hch (by simp; omega)
        have hcell : w3.cell? ⟨w1.heap.size, d, none⟩ = some (.int .i64 (cv : Int)) := by rw [hG1.cell]; exact hld
        have hfr : w3.frozen? ⟨w1.heap.size, d, none⟩ = false := (hG1.facts).2.1 d
        have hwr : IntKind.i64.wrap ((cv : Int) + 1) = (cv : Int) + 1 := IntWalk.i64_in _ (by omega)
        have hd5' : ((d : Int) < 5) = True := eq_true (by omega)
        have hen' : (Instr.entry (.pointer (some ⟨w2.heap.size, 0, none⟩))).run Tryz.prog w3 = .ok (.tuple #[.agg #[.int .i64 kx, .int .i64 ky], .int .i64 (d : Int)]) w3 := hen
        have hrun' : ∀ ty, (Instr.next (.pointer (some ⟨w2.heap.size, 0, none⟩)) false ty).run Tryz.prog wq = .ok (.tuple #[.bool true, .agg #[.int .i64 kx, .int .i64 ky], .int .i64 (d : Int)]) w3 := hrun
        have hbw3 : Below w.heap.size w w3 := ((Chg.of_below hbw).trans (hch.mono (S' := [w2.heap.size]) (by simp))).below (by simp; omega) (Nat.le_refl _)
        clear hgm hd hld hcv hdl hen hrun
        have hR2 := hR1.of_block (Below.heap_setCell w3 ⟨w1.heap.size, d, none⟩ (.int .i64 ((cv : Int) + 1)) w2.heap.size (by simp; omega))
        have hG2 := hG1.set_ d (.int .i64 ((cv : Int) + 1))
        rw [hset.out] at hG2
        go_wp2
        refine ⟨⟨done ++ [(kx, ky)], hR2, hG2, hB1.far (by simp; omega) _, hM1.set (by simp; omega) _, bl_set hbw3 (by simp; omega) _⟩, ?_⟩
        rw [hR2.seenN, hR.seenN]
        simp
        omega
  · have hE' : (netE l != 0) = true := by simpa using hE
    have HS : Hid (legsR l = zer5) := by unfold Hid legsR; rw [if_neg hE]
    clear hE
    go_enter Tryz.func22, Tryz.ntmps22
    go_wp2_with fail
    refine (nnet_sl l _ h0).mono ?_
    rintro e w1 ⟨rfl, hb1⟩
    have hB1 := hB.below hb1
    have hbw1 : Below w.heap.size w w1 := by (repeat (first | exact bl_refl | assumption | (apply bl_then; assumption) | refine bl_alloc ?_ _ | refine bl_drew ?_ | refine bl_drewN ?_ _))
    go_wp2_with (refine wpList_store_blk hB1 rfl _ _ _ rfl rfl rfl (by rfl) (by kernel_rfl) (by kernel_rfl) ?_; intro w4 hR4 hc4; have fR4 := hR4.facts)
    have hb4 : Below w.heap.size w w4 := ((Chg.of_below hbw1).trans (hc4.mono (S' := [w.heap.size]) (by simp))).below (by simp) (Nat.le_refl _)
    refine bodyPost_ret (v := .tuple #[.agg #[.int .i64 0, .int .i64 0, .int .i64 0, .int .i64 0, .int .i64 0], .int .i64 (netE l)]) (by simp [results, Tryz.results22, go_sem, fR4]) rfl ?_
    exact ⟨by rw [HS.out]; rfl, hb4⟩
end Go.Proofs.YtpompeancmonbaaGreat

/- A bar looked for in a net, walked. Conditions: the net is in its order. -/
namespace Go.Proofs.YtpompeancmonbaaGreat
open Go.RowKit Go.ChangeMaps
set_option maxHeartbeats 4000000
set_option maxRecDepth 100000

theorem barCmp_zero (a b : Bar) : barCmp a.1 a.2.1 a.2.2 b.1 b.2.1 b.2.2 = 0 ↔ a = b := by
  obtain ⟨x, y, s⟩ := a
  obtain ⟨x', y', s'⟩ := b
  simp only [barCmp, cmpI, firstI, Prod.mk.injEq]
  repeat' split
  all_goals first | omega | (constructor <;> intro h <;> omega)
theorem barCmp_neg (a b : Bar) : barCmp a.1 a.2.1 a.2.2 b.1 b.2.1 b.2.2 < 0 ↔ bltP a b := by
  have := barCmp_lt a.1 a.2.1 a.2.2 b.1 b.2.1 b.2.2
  unfold bltP
  cases h : barLt a.1 a.2.1 a.2.2 b.1 b.2.1 b.2.2
  · rw [h] at this
    have h2 : 0 ≤ barCmp a.1 a.2.1 a.2.2 b.1 b.2.1 b.2.2 := of_decide_eq_true this
    constructor
    · intro h3; omega
    · intro h3; cases h3
  · rw [h] at this
    have h2 : ¬ 0 ≤ barCmp a.1 a.2.1 a.2.2 b.1 b.2.1 b.2.2 := of_decide_eq_false this
    constructor
    · intro _; rfl
    · intro _; omega
theorem search_has {l : List Bar} (hs : l.Pairwise bltP) {a : Nat} {e : Bar} (h1 : ∀ t z, t < a → l[t]? = some z → bltP z e) (h2 : ∀ t z, a ≤ t → l[t]? = some z → ¬ bltP z e) :
    hasb l e = match l[a]? with | some z => decide (z = e) | none => false := by
  unfold hasb
  have key : e ∈ l ↔ l[a]? = some e := by
    constructor
    · intro h
      obtain ⟨t, ht, he⟩ := List.getElem_of_mem h
      have hg : l[t]? = some e := by rw [List.getElem?_eq_getElem ht, he]
      rcases Nat.lt_trichotomy t a with h3 | h3 | h3
      · exact absurd (h1 t e h3 hg) (bltP_irrefl e)
      · rw [← h3]; exact hg
      · have ha : a < l.length := by omega
        have := List.pairwise_iff_getElem.1 hs a t ha ht h3
        rw [he] at this
        exact absurd this (h2 a _ (Nat.le_refl _) (List.getElem?_eq_getElem ha))
    · intro h; exact List.mem_of_getElem? h
  have hm : ∀ o : Option Bar, (match o with | some z => decide (z = e) | none => false) = true ↔ o = some e := by intro o; cases o <;> simp
  rw [Bool.eq_iff_iff, decide_eq_true_eq, key]
  exact (hm _).symm
/-- what a binary search for a bar returns -/
theorem search_anyN {v : Value} (l : List Bar) (x y s : Int) (w : World) (h : SlB w v l) (hs : l.Pairwise bltP) (hlen : l.length ≤ 100000) :
    Calls Tryz.prog 134 #[v, .agg #[.int .i64 x, .int .i64 y, .int .i64 s], .func (.func 82) #[] #[]] w
      (fun e w' => ∃ i : Nat, e = .returned (.tuple #[.int .i64 i, .bool (hasb l (x, y, s))]) ∧ Below w.heap.size w w') := by
  obtain ⟨A, c, rfl, hlc, hcm, h⟩ := h
  have hB := Blk.new w 46 #[.int .i64 x, .int .i64 y, .int .i64 s]
  have HSO := Lib.hid hs
  clear hs
  go_enter Tryz.func134, Tryz.ntmps134
  go_wp2
  go_loopw [9, 10] (fun i j wr => ∃ a b : Nat, i = .int .i64 a ∧ j = .int .i64 b ∧ a ≤ b ∧ b ≤ l.length ∧ Hid ((∀ t z, t < a → l[t]? = some z → bltP z (x, y, s)) ∧ ∀ t z, b ≤ t → l[t]? = some z → ¬ bltP z (x, y, s)) ∧ Blk wr w.heap.size 46 #[.int .i64 x, .int .i64 y, .int .i64 s] ∧ Below w.heap.size w wr) (fun i j _ => (intOf j).toNat - (intOf i).toNat)
  case atStart => exact ⟨0, l.length, rfl, rfl, Nat.zero_le _, Nat.le_refl _, ⟨fun t z h => by omega, fun t z h hz => by rw [List.getElem?_eq_none h] at hz; cases hz⟩, hB, by (repeat (first | exact bl_refl | assumption | (apply bl_then; assumption) | refine bl_alloc ?_ _ | refine bl_drew ?_ | refine bl_drewN ?_ _))⟩
  case round =>
    clear hB
    obtain ⟨a, b, rfl, rfl, hab, hbl, H, hBr, hbw⟩ := hrel
    have fB := hBr.facts
    by_cases hlt : a < b
    · have hmid : (a + b) / 2 < l.length := by omega
      obtain ⟨m, hm⟩ : ∃ m, (a + b) / 2 = m := ⟨_, rfl⟩
      rw [hm] at hmid
      have hr := h.below hbw
      obtain ⟨b3, off3, rfl, hb3, e0, e1, e2⟩ := hr.bar hmid
      obtain ⟨⟨zx, zy, zs⟩, hz⟩ : ∃ z, l[m] = z := ⟨_, rfl⟩
      rw [hz] at e0 e1 e2
      simp only at e0 e1 e2
      have hm' : ((a : Int) + (b : Int)) / 2 = (m : Int) := by omega
      have hzm : l[m]? = some (zx, zy, zs) := by rw [List.getElem?_eq_getElem hmid, hz]
      obtain ⟨cv, hcv⟩ : ∃ q, barCmp zx zy zs x y s = q := ⟨_, rfl⟩
      have hc := fun W => ncompare_any zx zy zs x y s W
      rw [hcv] at hc
      have hn := barCmp_neg (zx, zy, zs) (x, y, s)
      simp only at hn
      rw [hcv] at hn
      have HZ := Lib.hid hzm
      have HN := Lib.hid hn
      clear hm hz hzm hn hcv
      by_cases hneg : cv < 0
      · have t1 : decide (cv < 0) = true := decide_eq_true hneg
        have hb2 : Hid ((∀ t z, t < m + 1 → l[t]? = some z → bltP z (x, y, s)) ∧ ∀ t z, b ≤ t → l[t]? = some z → ¬ bltP z (x, y, s)) := ⟨fun t z ht hg => by
          by_cases h : t = m
          · subst h; rw [HZ.out] at hg; cases hg; exact HN.out.1 hneg
          · obtain ⟨h3, h4⟩ := List.getElem?_eq_some_iff.1 hg
            obtain ⟨h5, h6⟩ := List.getElem?_eq_some_iff.1 HZ.out
            have := List.pairwise_iff_getElem.1 HSO.out t m h3 h5 (by omega)
            rw [h4, h6] at this
            exact bltP_trans this (HN.out.1 hneg), H.out.2⟩
        clear hneg
        go_wp2
        refine wp_region_ords [0, 1, 2, 3, 4, 5] [] [6, 7] (by kernel_rfl) (by kernel_rfl) (fun d _ _ _ _ h => by cases d <;> exact h) ?_
        simp only [List.map_cons, List.map_nil, List.getD_cons_zero, List.getD_cons_succ]
        repeat (go_big_quiet_step (fail))
        refine wpQuiet_nil ?_
        refine wpMid_nil ?_
        go_wp2_with (go_at_call 82; refine (hc _).mono ?_; rintro e w4 ⟨rfl, hb4⟩)
        go_roundw
        case rel => exact ⟨m + 1, b, by go_num, rfl, by omega, hbl, hb2, hBr.below (by (repeat (first | exact bl_refl | assumption | (apply bl_then; assumption) | refine bl_alloc ?_ _ | refine bl_drew ?_ | refine bl_drewN ?_ _))), by (repeat (first | exact bl_refl | assumption | (apply bl_then; assumption) | refine bl_alloc ?_ _ | refine bl_drew ?_ | refine bl_drewN ?_ _))⟩
        case measure => simp [intOf]; omega
      · have t1 : decide (cv < 0) = false := decide_eq_false hneg
        have hb2 : Hid ((∀ t z, t < a → l[t]? = some z → bltP z (x, y, s)) ∧ ∀ t z, m ≤ t → l[t]? = some z → ¬ bltP z (x, y, s)) := ⟨H.out.1, fun t z ht hg hlt => by
          by_cases h : t = m
          · subst h; rw [HZ.out] at hg; cases hg; exact hneg (HN.out.2 hlt)
          · obtain ⟨h3, h4⟩ := List.getElem?_eq_some_iff.1 hg
            obtain ⟨h5, h6⟩ := List.getElem?_eq_some_iff.1 HZ.out
            have := List.pairwise_iff_getElem.1 HSO.out m t h5 h3 (by omega)
            rw [h4, h6] at this
            exact hneg (HN.out.2 (bltP_trans this hlt))⟩
        clear hneg
        go_wp2
        refine wp_region_ords [0, 1, 2, 3, 4, 5] [] [6, 7] (by kernel_rfl) (by kernel_rfl) (fun d _ _ _ _ h => by cases d <;> exact h) ?_
        simp only [List.map_cons, List.map_nil, List.getD_cons_zero, List.getD_cons_succ]
        repeat (go_big_quiet_step (fail))
        refine wpQuiet_nil ?_
        refine wpMid_nil ?_
        go_wp2_with (go_at_call 82; refine (hc _).mono ?_; rintro e w4 ⟨rfl, hb4⟩)
        go_roundw
        case rel => exact ⟨a, m, rfl, rfl, by omega, by omega, hb2, hBr.below (by (repeat (first | exact bl_refl | assumption | (apply bl_then; assumption) | refine bl_alloc ?_ _ | refine bl_drew ?_ | refine bl_drewN ?_ _))), by (repeat (first | exact bl_refl | assumption | (apply bl_then; assumption) | refine bl_alloc ?_ _ | refine bl_drew ?_ | refine bl_drewN ?_ _))⟩
        case measure => simp [intOf]; omega
    · obtain rfl : a = b := by omega
      have hsh := search_has HSO.out H.out.1 H.out.2
      clear hlt
      by_cases hal : a < l.length
      · have hr := h.below hbw
        obtain ⟨b3, off3, rfl, hb3, e0, e1, e2⟩ := hr.bar hal
        obtain ⟨⟨zx, zy, zs⟩, hz⟩ : ∃ z, l[a] = z := ⟨_, rfl⟩
        rw [List.getElem?_eq_getElem hal, hz] at hsh
        rw [hz] at e0 e1 e2
        simp only at e0 e1 e2 hsh
        obtain ⟨cv, hcv⟩ : ∃ q, barCmp zx zy zs x y s = q := ⟨_, rfl⟩
        have hc := fun W => ncompare_any zx zy zs x y s W
        rw [hcv] at hc
        have hn := barCmp_zero (zx, zy, zs) (x, y, s)
        simp only at hn
        rw [hcv] at hn
        obtain ⟨q, hq⟩ : ∃ q, (cv == 0) = q := ⟨_, rfl⟩
        have HS : Hid (hasb l (x, y, s) = q) := by
          unfold Hid
          rw [hsh, ← hq, Bool.eq_iff_iff, decide_eq_true_eq, beq_iff_eq]
          exact hn.symm
        clear hsh hz hn hcv
        cases q
        all_goals
          go_wp2
          refine wp_region_ords [0, 1, 2, 3, 4, 5, 6, 7, 8, 9, 10] [(11, false), (12, true), (13, true), (14, false)] [15] (by kernel_rfl) (by kernel_rfl) (fun d _ _ _ _ h => by cases d <;> exact h) ?_
          simp only [List.map_cons, List.map_nil, List.getD_cons_zero, List.getD_cons_succ]
          repeat (go_big_quiet_step (fail))
          refine wpQuiet_nil ?_
          refine wpMid_run rfl (fun K hK => ?_)
          go_simp
          refine (hc _).mono ?_
          rintro e w4 ⟨rfl, hb4⟩
          refine hK _ _ (by (repeat (first | exact bl_refl | assumption | (apply bl_then; assumption) | refine bl_alloc ?_ _ | refine bl_drew ?_ | refine bl_drewN ?_ _))) ?_
          clear hK K
          refine wpMid_take rfl ?_
          intro K hK
          go_big_quiet_op
          go_big_quiet_on
          refine wpMid_take rfl ?_
          intro K hK
          go_big_quiet_op
          go_big_quiet_on
          refine wpMid_run rfl (fun K hK => ?_)
          go_simp
          refine hK _ _ (by (repeat (first | exact bl_refl | assumption | (apply bl_then; assumption) | refine bl_alloc ?_ _ | refine bl_drew ?_ | refine bl_drewN ?_ _))) ?_
          clear hK K
          refine wpMid_nil ?_
          go_wp2
          refine bodyPost_ret (v := .tuple #[.int .i64 a, .bool (hasb l (x, y, s))]) (by rw [HS.out]; simp [results, Tryz.results134, go_sem]) rfl ?_
          exact ⟨a, rfl, by (repeat (first | exact bl_refl | assumption | (apply bl_then; assumption) | refine bl_alloc ?_ _ | refine bl_drew ?_ | refine bl_drewN ?_ _))⟩
      · rw [List.getElem?_eq_none (by omega)] at hsh
        have HS : Hid (hasb l (x, y, s) = false) := hsh
        have hlt' : decide ((a : Int) < (l.length : Int)) = false := decide_eq_false (by omega)
        clear hsh
        go_wp2
        refine wp_region_ords [0, 1, 2, 3, 4, 5, 6, 7, 8, 9, 10] [(11, false), (12, true), (13, true), (14, false)] [15] (by kernel_rfl) (by kernel_rfl) (fun d _ _ _ _ h => by cases d <;> exact h) ?_
        simp only [List.map_cons, List.map_nil, List.getD_cons_zero, List.getD_cons_succ]
        repeat (go_big_quiet_step (fail))
        refine wpQuiet_nil ?_
        refine wpMid_skipF (by kernel_rfl) ?_
        intro K hK
        simp only [Act.put, List.setIfInBounds_toArray, List.set_cons_zero, List.set_cons_succ]
        refine hK _ ?_
        clear hK K
        refine wpMid_skipT (by kernel_rfl) ?_
        intro K hK
        simp only [Act.put, List.setIfInBounds_toArray, List.set_cons_zero, List.set_cons_succ]
        refine hK _ ?_
        clear hK K
        refine wpMid_take rfl ?_
        intro K hK
        go_big_quiet_op
        go_big_quiet_on
        refine wpMid_run rfl (fun K hK => ?_)
        go_simp
        refine hK _ _ (by (repeat (first | exact bl_refl | assumption | (apply bl_then; assumption) | refine bl_alloc ?_ _ | refine bl_drew ?_ | refine bl_drewN ?_ _))) ?_
        clear hK K
        refine wpMid_nil ?_
        go_wp2
        refine bodyPost_ret (v := .tuple #[.int .i64 a, .bool (hasb l (x, y, s))]) (by rw [HS.out]; simp [results, Tryz.results134, go_sem]) rfl ?_
        exact ⟨a, rfl, by (repeat (first | exact bl_refl | assumption | (apply bl_then; assumption) | refine bl_alloc ?_ _ | refine bl_drew ?_ | refine bl_drewN ?_ _))⟩
theorem nhas_any {v : Value} (l : List Bar) (x y s : Int) (w : World) (h : SlB w v l) (hs : l.Pairwise bltP) (hlen : l.length ≤ 100000) :
    Calls Tryz.prog 105 #[v, .agg #[.int .i64 x, .int .i64 y, .int .i64 s]] w (RV w (.bool (hasb l (x, y, s)))) := by
  have hB := Blk.new w 46 #[.int .i64 x, .int .i64 y, .int .i64 s]
  have h2 := h.alloc (.cells #[.int .i64 x, .int .i64 y, .int .i64 s] 46)
  have fB := hB.facts
  go_enter Tryz.func105, Tryz.ntmps105
  go_wp2_with (go_at_call 134; refine (search_anyN l _ _ _ _ h2 hs hlen).mono ?_; rintro e w1 ⟨i, rfl, hb1⟩)
  go_ret
  exact ⟨rfl, by (repeat (first | exact bl_refl | assumption | (apply bl_then; assumption) | refine bl_alloc ?_ _ | refine bl_drew ?_ | refine bl_drewN ?_ _))⟩
end Go.Proofs.YtpompeancmonbaaGreat

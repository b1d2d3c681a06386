/- How many knots have each degree, of the program, walked. Conditions: the slices read as lists. -/
import Derived.Test.YtpompeancmonbaaGreatD07
import Derived.Test.YtpompeancmonbaaGreatD15
import Derived.Test.YtpompeancmonbaaGreatD21
import Derived.Test.YtpompeancmonbaaGreatD20
import Derived.Test.YtpompeancmonbaaGreatD22
import Derived.Test.YtpompeancmonbaaGreatD24
import Derived.Test.YtpompeancmonbaaGreatD12
import Derived.Test.YtpompeancmonbaaGreatD27
import Derived.Test.YtpompeancmonbaaGreatD28
namespace Go.Proofs.YtpompeancmonbaaGreat
open Go.RowKit Go.ChangeMaps
set_option maxHeartbeats 4000000
set_option maxRecDepth 100000

/-- a bar ends at a knot -/
def atB (k : Knot) (b : Bar) : Bool := decide (lowK b = k) || decide (uppK b = k)
theorem degN_eq (k : Knot) : ∀ l : List Bar, degN l k = l.countP (atB k)
  | [] => rfl
  | b :: r => by
    have ih := degN_eq k r
    have hne := low_ne_upp b
    unfold degN at ih ⊢
    rw [List.countP_cons, ← ih]
    show List.count k ([lowK b, uppK b] ++ endsL r) = _
    rw [List.count_append]
    have e1 : ∀ (p q : Knot), List.count k [p, q] = (if p = k then 1 else 0) + if q = k then 1 else 0 := fun p q => by
      rw [List.count_cons, List.count_cons, List.count_nil]
      simp only [beq_iff_eq]
      omega
    rw [e1]
    have e2 : (if atB k b = true then 1 else 0) = (if lowK b = k then 1 else 0) + if uppK b = k then 1 else 0 := by
      unfold atB
      by_cases h1 : lowK b = k
      · have h2 : ¬ uppK b = k := fun e => hne (h1.trans e.symm)
        simp [h1, h2]
      · by_cases h2 : uppK b = k
        · simp [h1, h2]
        · simp [h1, h2]
    omega
theorem at_arm {b : Bar} (hb : Sided b) {k : Knot} (h : atB k b = true) : b ∈ [armB k 0, armB k 1, armB k 2, armB k 3] := by
  obtain ⟨x, y, s⟩ := b
  obtain ⟨kx, ky⟩ := k
  simp only [atB, lowK, uppK, Bool.or_eq_true, decide_eq_true_eq, Prod.mk.injEq] at h
  simp only [armB, List.mem_cons, List.not_mem_nil, or_false, Prod.mk.injEq]
  rcases hb with h1 | h1 <;> simp only at h1 <;> subst h1 <;> omega
theorem degN_le {l : List Bar} (hn : l.Nodup) (hs : ∀ b ∈ l, Sided b) (k : Knot) : degN l k ≤ 4 := by
  rw [degN_eq, List.countP_eq_length_filter]
  exact length_le_of_sub (D := [armB k 0, armB k 1, armB k 2, armB k 3]) (hn.filter _) fun b hb => by
    obtain ⟨h1, h2⟩ := List.mem_filter.1 hb
    exact at_arm (hs b h1) h2
theorem degN_pos (l : List Bar) (k : Knot) : 0 < degN l k ↔ k ∈ holeK l := by
  unfold degN
  rw [List.count_pos_iff, endsL_mem]
  unfold holeK
  rw [holeIn_mem]
  simp
/-- how many of some knots have a degree -/
def legC (l : List Bar) (K : List Knot) (d : Nat) : Nat := (K.filter fun k => degN l k == d).length
theorem legC_snoc (l : List Bar) (K : List Knot) (k : Knot) (d : Nat) : legC l (K ++ [k]) d = legC l K d + if degN l k = d then 1 else 0 := by
  unfold legC
  rw [List.filter_append, List.length_append]
  by_cases h : degN l k = d <;> simp [h]
theorem legC_perm {l : List Bar} {K K' : List Knot} (h1 : K.Nodup) (h2 : K'.Nodup) (h : ∀ k, k ∈ K ↔ k ∈ K') (d : Nat) : legC l K d = legC l K' d := by
  unfold legC
  exact Nat.le_antisymm (length_le_of_sub (h1.filter _) fun x hx => by simp only [List.mem_filter] at hx ⊢; exact ⟨(h x).1 hx.1, hx.2⟩)
    (length_le_of_sub (h2.filter _) fun x hx => by simp only [List.mem_filter] at hx ⊢; exact ⟨(h x).2 hx.1, hx.2⟩)
def legA (l : List Bar) (K : List Knot) : Array Value := #[.int .i64 (legC l K 0 : Nat), .int .i64 (legC l K 1 : Nat), .int .i64 (legC l K 2 : Nat), .int .i64 (legC l K 3 : Nat), .int .i64 (legC l K 4 : Nat)]
theorem legA_get (l : List Bar) (K : List Knot) {d : Nat} (h : d < 5) : (legA l K)[d]? = some (.int .i64 (legC l K d : Nat)) := by
  obtain rfl | rfl | rfl | rfl | rfl : d = 0 ∨ d = 1 ∨ d = 2 ∨ d = 3 ∨ d = 4 := by omega
  all_goals rfl
theorem legA_set (l : List Bar) (K : List Knot) (k : Knot) {d : Nat} (h : d < 5) (hd : degN l k = d) : (legA l K).setIfInBounds d (.int .i64 ((legC l K d : Nat) + 1 : Int)) = legA l (K ++ [k]) := by
  have q : ∀ n, legC l (K ++ [k]) n = legC l K n + if d = n then 1 else 0 := fun n => by rw [legC_snoc, hd]
  obtain rfl | rfl | rfl | rfl | rfl : d = 0 ∨ d = 1 ∨ d = 2 ∨ d = 3 ∨ d = 4 := by omega
  all_goals simp [legA, q]
theorem mget_of_mem {κ ν : Type} [DecidableEq κ] : ∀ {m : List (κ × ν × Nat)}, (mkeys m).Nodup → ∀ {x : κ × ν × Nat}, x ∈ m → mget x.1 m = some x.2.1
  | [], _, _, h => by simp at h
  | y :: r, hn, x, h => by
    have hn' : y.1 ∉ mkeys r ∧ (mkeys r).Nodup := by simpa [mkeys] using hn
    unfold mget
    rcases List.mem_cons.1 h with rfl | h1
    · rw [if_pos rfl]
    · rw [if_neg (fun e => hn'.1 (by rw [← e]; exact List.mem_map.2 ⟨x, h1, rfl⟩))]
      exact mget_of_mem hn'.2 h1
def zer5 : Array Value := #[.int .i64 0, .int .i64 0, .int .i64 0, .int .i64 0, .int .i64 0]
/-- the numbers of the degrees, as an array's value, and an error -/
def RLEN (w : World) (cs : Array Value) (n : Int) (e : Ending) (w' : World) : Prop := e = .returned (.tuple #[.agg cs, .int .i64 n]) ∧ Below w.heap.size w w'
def legsR (l : List Bar) : Array Value := if netE l = 0 then legA l (holeK l) else zer5
theorem apiLegs_any {v : Value} (l : List Bar) (w : World) (h : SlB w v l) : Calls Tryz.prog 22 #[v] w (RLEN w (legsR l) (netE l)) := by
  have hB := Blk.new w 62 #[.int .i64 0, .int .i64 0, .int .i64 0, .int .i64 0, .int .i64 0]
  have h0 := h.alloc (.cells #[.int .i64 0, .int .i64 0, .int .i64 0, .int .i64 0, .int .i64 0] 62)
  have fB := hB.facts
  by_cases hE : netE l = 0
  · have hok := netE_ok hE
    have hE' : (netE l != 0) = false := by simp [hE]
    have HS : Hid (legsR l = legA l (holeK l) ∧ netE l = 0) := by unfold Hid legsR; rw [if_pos hE]; exact ⟨rfl, hE⟩
    have HO := Lib.hid hok
    clear hE
    go_enter Tryz.func22, Tryz.ntmps22
    go_wp2_with (go_at_call 35; refine (nnet_sl l _ h0).mono ?_; rintro e w1 ⟨rfl, hb1⟩; (first | replace hB := hB.st0 hb1 | replace hB := hB.st1 hb1 | replace hB := hB.std hb1 | replace hB := hB.std1 hb1 | replace hB := hB.st2 hb1 | replace hB := hB.std2 hb1 | replace hB := hB.st3 hb1); have kB := hB.facts; (first | replace h0 := h0.st0 hb1 | replace h0 := h0.st1 hb1 | replace h0 := h0.std hb1 | replace h0 := h0.std1 hb1 | replace h0 := h0.st2 hb1 | replace h0 := h0.std2 hb1 | replace h0 := h0.st3 hb1))
    have hG := Blk.new w1 62 #[.int .i64 0, .int .i64 0, .int .i64 0, .int .i64 0, .int .i64 0]
    have hBa := hB.alloc (.cells #[.int .i64 0, .int .i64 0, .int .i64 0, .int .i64 0, .int .i64 0] 62)
    refine (degrees_any l _ (h0.alloc _) hok.ok hok.len1).mono ?_
    rintro e w2 ⟨r, m, c, rfl, hr, hM, hokM, hg, hb2⟩
    have hG2 := hG.below hb2
    have hB2 := hBa.below hb2
    have hsz : w.heap.size < w1.heap.size := hB.lt
    have hlt := hM.lt
    have hbw2 : Below w.heap.size w w2 := by (repeat (first | exact bl_refl | assumption | (apply bl_then; assumption) | refine bl_alloc ?_ _ | refine bl_drew ?_ | refine bl_drewN ?_ _))
    have HM := Lib.hid (And.intro hokM hg)
    have hrg := run_range_map (P := Tryz.prog) hM und_kint
    have hst := RngAt.start (κ := Knot) (ν := Nat) (w := w2) (rk := r) hokM
    simp only [World.size_alloc] at hr
    clear hokM hg hBa hG hB fB
    go_wp2
    have hGa := hG2.alloc (.mapIter (some r) c #[] c)
    have hBa := hB2.alloc (.mapIter (some r) c #[] c)
    have hMa := hM.alloc (.mapIter (some r) c #[] c)
    have hmne : w2.heap.size ≠ r := by omega
    clear hrg
    go_loopw [] (fun wr => ∃ done, RngAt wr w2.heap.size r m c done ∧ Blk wr w1.heap.size 62 (legA l done) ∧ Blk wr w.heap.size 62 zer5 ∧ MapAt kk cntV wr r m c ∧ Below w.heap.size w wr) (fun wr => m.length - seenN wr w2.heap.size)
    case atStart => exact ⟨[], hst, hGa, hBa, hMa, by (repeat (first | exact bl_refl | assumption | (apply bl_then; assumption) | refine bl_alloc ?_ _ | refine bl_drew ?_ | refine bl_drewN ?_ _))⟩
    case round =>
      clear hst hGa hBa hMa hG2 hB2
      obtain ⟨done, hR, hGr, hBr, hMr, hbw⟩ := hrel
      obtain ⟨wq, rfl⟩ : ∃ x, x = wr := ⟨_, rfl⟩
      rcases rng_next (P := Tryz.prog) hR hMr HM.out.1 hmne with ⟨hall, hrun⟩ | ⟨⟨⟨kx, ky⟩, d, st⟩, hx, hnd, w3, hrun, hen, hch, hR1⟩
      · have hE : Hid (legA l done = legA l (holeK l)) := by
          have hp : ∀ d, legC l done d = legC l (holeK l) d := legC_perm hR.nodup (sortedK_nodup (holeK_sorted l)) fun k => by
            have h1 := @mget_none _ _ _ k m
            rw [HM.out.2 k] at h1
            rw [← degN_pos]
            constructor
            · intro hk
              have := hR.sub k hk
              unfold cntO at h1
              split at h1
              · exact absurd this (h1.1 rfl)
              · omega
            · intro hk
              refine hall k ?_
              unfold cntO at h1
              rw [if_neg (by omega)] at h1
              by_cases hm : k ∈ mkeys m
              · exact hm
              · exact absurd (h1.2 hm) (by simp)
          unfold Hid legA
          rw [hp, hp, hp, hp, hp]
        rw [hE.out] at hGr
        have fG := hGr.facts
        unfold legA at fG
        clear hall
        have hld : ∀ i, wq.cell? ⟨w1.heap.size, i, none⟩ = (legA l (holeK l))[i]? := fun i => hGr.cell i
        unfold legA at hld
        go_wp2_with (refine wpList_store_blk hBr rfl _ _ _ rfl rfl rfl (by rfl) (by kernel_rfl) (by kernel_rfl) ?_; intro w4 hR4 hc4; have fR4 := hR4.facts)
        have hb4 : Below w.heap.size w w4 := ((Chg.of_below hbw).trans (hc4.mono (S' := [w.heap.size]) (by simp))).below (by simp) (Nat.le_refl _)
        refine bodyPost_ret (v := .tuple #[.agg #[.int .i64 (legC l (holeK l) 0 : Nat), .int .i64 (legC l (holeK l) 1 : Nat), .int .i64 (legC l (holeK l) 2 : Nat), .int .i64 (legC l (holeK l) 3 : Nat), .int .i64 (legC l (holeK l) 4 : Nat)], .int .i64 0]) (by simp [results, Tryz.results22, go_sem, fR4]) rfl ?_
        exact ⟨by rw [HS.out.1, HS.out.2]; rfl, hb4⟩
      · have hgm := mget_of_mem HM.out.1.keys hx
        rw [HM.out.2 (kx, ky)] at hgm
        have hd : degN l (kx, ky) = d := by
          unfold cntO at hgm
          split at hgm
          · cases hgm
          · exact Option.some.inj hgm
        have hd5 : d < 5 := by have := degN_le HO.out.nodup (fun b hb => (HO.out.ok b hb).2.2) (kx, ky); omega
        have hlm : done.length < m.length := by
          have := length_le_of_sub hR1.nodup hR1.sub
          rw [mkeys_length, List.length_append] at this
          simp only [List.length_cons, List.length_nil] at this
          omega
        have hdl : legC l done d ≤ 20000 := by
          have h1 : done.length ≤ (holeK l).length := length_le_of_sub hR.nodup fun k hk => by
            have h1 := @mget_none _ _ _ k m
            rw [HM.out.2 k] at h1
            rw [← degN_pos]
            have := hR.sub k hk
            unfold cntO at h1
            split at h1
            · exact absurd this (h1.1 rfl)
            · omega
          have h2 : (holeK l).length ≤ 2 * l.length := by
            have := kIn_len l (2 * l.length)
            rwa [kIn_all (Nat.le_refl _)] at this
          have h3 : legC l done d ≤ done.length := List.length_filter_le _ _
          have h4 := HO.out.len
          omega
        have hset := Lib.hid (legA_set l done (kx, ky) hd5 hd)
        obtain ⟨cv, hcv⟩ : ∃ cv, legC l done d = cv := ⟨_, rfl⟩
        have hld := legA_get l done hd5
        rw [hcv] at hld hdl hset
        have hG1 := hGr.chg hch (by simp; omega)
        have hB1 := hBr.chg hch (by simp; omega)
        have hM1 := hMr.chg hch (by simp; omega)
        have hcell : w3.cell? ⟨w1.heap.size, d, none⟩ = some (.int .i64 (cv : Int)) := by rw [hG1.cell]; exact hld
        have hfr : w3.frozen? ⟨w1.heap.size, d, none⟩ = false := (hG1.facts).2.1 d
        have hwr : IntKind.i64.wrap ((cv : Int) + 1) = (cv : Int) + 1 := IntWalk.i64_in _ (by omega)
        have hd5' : ((d : Int) < 5) = True := eq_true (by omega)
        have hen' : (Instr.entry (.pointer (some ⟨w2.heap.size, 0, none⟩))).run Tryz.prog w3 = .ok (.tuple #[.agg #[.int .i64 kx, .int .i64 ky], .int .i64 (d : Int)]) w3 := hen
        have hrun' : ∀ ty, (Instr.next (.pointer (some ⟨w2.heap.size, 0, none⟩)) false ty).run Tryz.prog wq = .ok (.tuple #[.bool true, .agg #[.int .i64 kx, .int .i64 ky], .int .i64 (d : Int)]) w3 := hrun
        have hbw3 : Below w.heap.size w w3 := ((Chg.of_below hbw).trans (hch.mono (S' := [w2.heap.size]) (by simp))).below (by simp; omega) (Nat.le_refl _)
        clear hgm hd hld hcv hdl hen hrun
        have hR2 := hR1.of_block (Below.heap_setCell w3 ⟨w1.heap.size, d, none⟩ (.int .i64 ((cv : Int) + 1)) w2.heap.size (by simp; omega))
        have hG2 := hG1.set_ d (.int .i64 ((cv : Int) + 1))
        rw [hset.out] at hG2
        go_wp2
        refine ⟨⟨done ++ [(kx, ky)], hR2, hG2, hB1.far (by simp; omega) _, hM1.set (by simp; omega) _, bl_set hbw3 (by simp; omega) _⟩, ?_⟩
        rw [hR2.seenN, hR.seenN]
        simp
        omega
  · have hE' : (netE l != 0) = true := by simpa using hE
    have HS : Hid (legsR l = zer5) := by unfold Hid legsR; rw [if_neg hE]
    clear hE
    go_enter Tryz.func22, Tryz.ntmps22
    go_wp2_with fail
    refine (nnet_sl l _ h0).mono ?_
    rintro e w1 ⟨rfl, hb1⟩
    have hB1 := hB.below hb1
    have hbw1 : Below w.heap.size w w1 := by (repeat (first | exact bl_refl | assumption | (apply bl_then; assumption) | refine bl_alloc ?_ _ | refine bl_drew ?_ | refine bl_drewN ?_ _))
    go_wp2_with (refine wpList_store_blk hB1 rfl _ _ _ rfl rfl rfl (by rfl) (by kernel_rfl) (by kernel_rfl) ?_; intro w4 hR4 hc4; have fR4 := hR4.facts)
    have hb4 : Below w.heap.size w w4 := ((Chg.of_below hbw1).trans (hc4.mono (S' := [w.heap.size]) (by simp))).below (by simp) (Nat.le_refl _)
    refine bodyPost_ret (v := .tuple #[.agg #[.int .i64 0, .int .i64 0, .int .i64 0, .int .i64 0, .int .i64 0], .int .i64 (netE l)]) (by simp [results, Tryz.results22, go_sem, fR4]) rfl ?_
    exact ⟨by rw [HS.out]; rfl, hb4⟩
end Go.Proofs.YtpompeancmonbaaGreat

/- The meshes of a net, walked. Conditions: the net has no error. -/
namespace Go.Proofs.YtpompeancmonbaaGreat
open Go.RowKit Go.ChangeMaps
set_option maxHeartbeats 4000000
set_option maxRecDepth 100000

theorem meshN_elem : Elem Tryz.prog 126 169 2 16 := ⟨by kernel_rfl, by kernel_rfl, by decide⟩
abbrev OwMN (base : Nat) := Own kc 2 base 169
theorem Sl.one_pair (w : World) (x y : Int) (t : TypeId) : SlK (w.alloc (.cells #[.int .i64 x, .int .i64 y] t)) (.slice (some ⟨w.heap.size, 0, none⟩) 1 1) [(x, y)] := by
  have hB := Blk.new w t #[.int .i64 x, .int .i64 y]
  refine ⟨_, 1, rfl, by simp, by simp [maxLen], fun i b hb => ?_⟩
  match i, hb with
  | 0, hb =>
    obtain rfl : (x, y) = b := by simpa using hb
    refine ⟨_, 0, rfl, hB.lt, fun j u hj => ?_⟩
    rw [hB.cell]
    simpa [kc] using hj
section
variable {ops : Array Oper} {rest : List Oper} {o : Oper} {a : Act} {Q : Exit → Act → World → Prop} {base : Nat} {W : World} {v : Value} {X Y : Int}
theorem wpList_appMN {l : List Knot} (hown : OwMN base W v l) {g : Nat} (hgd : o.guard = none) (s x : Operand) (ho : o.op = .call { callee := .builtin .append, args := #[s, x], argTypes := #[126, 126] })
    (hs : a.eval s = v) (hx : a.eval x = .slice (some ⟨g, 0, none⟩) 1 1) (hg : W.heap.size = g) (hlen : l.length ≤ 1000000) (hbase : base ≤ W.heap.size)
    (h : ∀ v' w', OwMN base w' v' (l ++ [(X, Y)]) → (W.alloc (.cells #[.int .i64 X, .int .i64 Y] 169)).grownBy w' v.ownBlock → wpList Tryz.prog ops Q rest (a.put o.dst v') w') :
    wpList Tryz.prog ops Q (o :: rest) a (W.alloc (.cells #[.int .i64 X, .int .i64 Y] 169)) := by
  subst hg
  exact wpList_app hgd meshN_elem kc_len kc_one s x ho base v _ l [(X, Y)] hs hx (hown.alloc _) (Sl.one_pair W X Y _) (by simp [maxLen]; omega) (by simp; omega) (by simp; omega) h
end
/-- the bar is the first one of a mesh -/
def isMesh (l : List Bar) (b : Bar) : Bool := decide (b.2.2 = -1) && hasb l (b.1, b.2.1, 1) && hasb l (b.1 - 1, b.2.1 + 1, 1) && hasb l (b.1 + 1, b.2.1 + 1, -1)
def meshLN (l m : List Bar) : List Knot := (m.filter (isMesh l)).map fun b => (b.1, b.2.1 + 1)
theorem meshL_take {l m : List Bar} {k : Nat} (hk : k < m.length) : meshLN l (m.take (k + 1)) = meshLN l (m.take k) ++ if isMesh l m[k] then [(m[k].1, m[k].2.1 + 1)] else [] := by
  unfold meshLN
  rw [List.take_succ_eq_append_getElem hk, List.filter_append, List.map_append]
  cases h : isMesh l m[k] <;> simp [h]
theorem meshL_len (l m : List Bar) : (meshLN l m).length ≤ m.length := by
  unfold meshLN
  rw [List.length_map]
  exact List.length_filter_le _ _
/-- the call returns a fresh row of meshes -/
def RMN (w : World) (l : List Knot) (e : Ending) (w' : World) : Prop := ∃ v, e = .returned v ∧ OwMN w.heap.size w' v l ∧ Below w.heap.size w w'
theorem nmeshes_any {v : Value} (l : List Bar) (w : World) (h : SlB w v l) (hok : NetOk l) : Calls Tryz.prog 70 #[v] w (RMN w (meshLN l l)) := by
  have hS := h
  obtain ⟨A, c, rfl, hlc, hcm, h⟩ := h
  have HK := Lib.hid hok
  have hlen := hok.len
  clear hok
  go_enter Tryz.func70, Tryz.ntmps70
  go_wp2
  go_loopw [3, 10] (fun o i wr => ∃ k : Nat, k ≤ l.length ∧ i = .int .i64 k ∧ OwMN w.heap.size wr o (meshLN l (l.take k)) ∧ Below w.heap.size w wr) (fun _ i _ => l.length - (intOf i).toNat)
  case atStart => exact ⟨0, Nat.zero_le _, rfl, Own.nil_, by (repeat (first | exact bl_refl | assumption | (apply bl_then; assumption) | refine bl_alloc ?_ _ | refine bl_drew ?_ | refine bl_drewN ?_ _))⟩
  case round =>
    obtain ⟨k, hk, rfl, hO, hbw⟩ := hrel
    obtain ⟨wo, rfl⟩ : ∃ x, x = wr := ⟨_, rfl⟩
    by_cases hlt : k < l.length
    · have hr := h.below hbw
      have hSr := hS.below hbw
      obtain ⟨b, off, rfl, hb, e0, e1, e2⟩ := hr.bar hlt
      have hbo := HK.out.ok _ (List.getElem_mem hlt)
      have HD := Lib.hid (meshL_take (l := l) hlt)
      have hll := meshL_len l (l.take k)
      have htk : (l.take k).length ≤ 4096 := by simp; omega
      obtain ⟨⟨x, y, s⟩, hx⟩ : ∃ z, l[k] = z := ⟨_, rfl⟩
      rw [hx] at e0 e1 e2 hbo HD
      simp only at e0 e1 e2 HD
      clear hx
      obtain ⟨q1, q2, q3⟩ := hbo
      simp only at q1 q2 q3
      have HI : Hid (isMesh l (x, y, s) = (decide (s = -1) && hasb l (x, y, 1) && hasb l (x - 1, y + 1, 1) && hasb l (x + 1, y + 1, -1))) := rfl
      go_upto_region 5 with fail
      obtain ⟨w1, hw1⟩ : ∃ X, wo.alloc (.cells #[.int .i64 x, .int .i64 y, .int .i64 s] 46) = X := ⟨_, rfl⟩
      have hN := Blk.new wo 46 #[.int .i64 x, .int .i64 y, .int .i64 s]
      have hb1 : Below wo.heap.size wo w1 := by rw [← hw1]; exact bl_alloc bl_refl _
      rw [hw1] at hN ⊢
      have fN := hN.facts
      have hS1 := hSr.below hb1
      have hO1 := hO.below hb1
      have hbw1 := bl_then hb1 hbw
      clear hw1 hO hSr e0 e1 e2 hr
      refine wp_region_ords [0, 1, 2, 3, 4, 5, 6] [] [] (by kernel_rfl) (by kernel_rfl) (fun d _ _ _ _ h => by cases d <;> exact h) ?_
      simp only [List.map_cons, List.map_nil, List.getD_cons_zero, List.getD_cons_succ]
      repeat (go_big_quiet_step (fail))
      refine wpQuiet_nil ?_
      refine wpMid_nil ?_
      go_upto_region 6 with fail
      have hNd := hN.drew
      go_cut [45] from 11 to 52 (fun s45 wx => s45 = .bool (isMesh l (x, y, s)) ∧ Below w1.heap.size w1 wx)
      case first =>
        obtain ⟨g1, h1⟩ : ∃ f, hasb l (x, y, 1) = f := ⟨_, rfl⟩
        obtain ⟨g2, h2⟩ : ∃ f, hasb l (x - 1, y + 1, 1) = f := ⟨_, rfl⟩
        obtain ⟨g3, h3⟩ : ∃ f, hasb l (x + 1, y + 1, -1) = f := ⟨_, rfl⟩
        have c1 := fun W (h : SlB W (.slice (some ⟨b, off, none⟩) l.length c) l) => nhas_any l x y 1 W h HK.out.sorted (by omega)
        have c2 := fun W (h : SlB W (.slice (some ⟨b, off, none⟩) l.length c) l) => nhas_any l (x - 1) (y + 1) 1 W h HK.out.sorted (by omega)
        have c3 := fun W (h : SlB W (.slice (some ⟨b, off, none⟩) l.length c) l) => nhas_any l (x + 1) (y + 1) (-1) W h HK.out.sorted (by omega)
        simp only [h1, h2, h3] at c1 c2 c3
        rw [h1, h2, h3] at HI
        clear h1 h2 h3 hO1
        rcases q3 with rfl | rfl
        · as_aux_lemma =>
            go_wp2_with fail
            go_meet
            case rel => exact ⟨by rw [HI.out]; rfl, by (repeat (first | exact bl_refl | assumption | (apply bl_then; assumption) | refine bl_alloc ?_ _ | refine bl_drew ?_ | refine bl_drewN ?_ _))⟩
        · cases g1
          · as_aux_lemma =>
              go_wp2_with fail
              refine (c1 _ (hS1.below (by (repeat (first | exact bl_refl | assumption | (apply bl_then; assumption) | refine bl_alloc ?_ _ | refine bl_drew ?_ | refine bl_drewN ?_ _))))).mono ?_
              rintro e w6 ⟨rfl, hb6⟩
              replace hN := hN.below (show Below _ _ w6 by (repeat (first | exact bl_refl | assumption | (apply bl_then; assumption) | refine bl_alloc ?_ _ | refine bl_drew ?_ | refine bl_drewN ?_ _)))
              replace fhN := hN.facts
              go_wp2_with fail
              go_meet
              case rel => exact ⟨by rw [HI.out]; rfl, by (repeat (first | exact bl_refl | assumption | (apply bl_then; assumption) | refine bl_alloc ?_ _ | refine bl_drew ?_ | refine bl_drewN ?_ _))⟩
          · cases g2
            · as_aux_lemma =>
                go_wp2_with fail
                refine (c1 _ (hS1.below (by (repeat (first | exact bl_refl | assumption | (apply bl_then; assumption) | refine bl_alloc ?_ _ | refine bl_drew ?_ | refine bl_drewN ?_ _))))).mono ?_
                rintro e w6 ⟨rfl, hb6⟩
                replace hN := hN.below (show Below _ _ w6 by (repeat (first | exact bl_refl | assumption | (apply bl_then; assumption) | refine bl_alloc ?_ _ | refine bl_drew ?_ | refine bl_drewN ?_ _)))
                replace fhN := hN.facts
                go_wp2_with fail
                refine (c2 _ (hS1.below (by (repeat (first | exact bl_refl | assumption | (apply bl_then; assumption) | refine bl_alloc ?_ _ | refine bl_drew ?_ | refine bl_drewN ?_ _))))).mono ?_
                rintro e w7 ⟨rfl, hb7⟩
                replace hN := hN.below (show Below _ _ w7 by (repeat (first | exact bl_refl | assumption | (apply bl_then; assumption) | refine bl_alloc ?_ _ | refine bl_drew ?_ | refine bl_drewN ?_ _)))
                replace fhN := hN.facts
                go_wp2_with fail
                go_meet
                case rel => exact ⟨by rw [HI.out]; rfl, by (repeat (first | exact bl_refl | assumption | (apply bl_then; assumption) | refine bl_alloc ?_ _ | refine bl_drew ?_ | refine bl_drewN ?_ _))⟩
            · cases g3
              · as_aux_lemma =>
                  go_wp2_with fail
                  refine (c1 _ (hS1.below (by (repeat (first | exact bl_refl | assumption | (apply bl_then; assumption) | refine bl_alloc ?_ _ | refine bl_drew ?_ | refine bl_drewN ?_ _))))).mono ?_
                  rintro e w6 ⟨rfl, hb6⟩
                  replace hN := hN.below (show Below _ _ w6 by (repeat (first | exact bl_refl | assumption | (apply bl_then; assumption) | refine bl_alloc ?_ _ | refine bl_drew ?_ | refine bl_drewN ?_ _)))
                  replace fhN := hN.facts
                  go_wp2_with fail
                  refine (c2 _ (hS1.below (by (repeat (first | exact bl_refl | assumption | (apply bl_then; assumption) | refine bl_alloc ?_ _ | refine bl_drew ?_ | refine bl_drewN ?_ _))))).mono ?_
                  rintro e w7 ⟨rfl, hb7⟩
                  replace hN := hN.below (show Below _ _ w7 by (repeat (first | exact bl_refl | assumption | (apply bl_then; assumption) | refine bl_alloc ?_ _ | refine bl_drew ?_ | refine bl_drewN ?_ _)))
                  replace fhN := hN.facts
                  go_wp2_with fail
                  refine (c3 _ (hS1.below (by (repeat (first | exact bl_refl | assumption | (apply bl_then; assumption) | refine bl_alloc ?_ _ | refine bl_drew ?_ | refine bl_drewN ?_ _))))).mono ?_
                  rintro e w8 ⟨rfl, hb8⟩
                  replace hN := hN.below (show Below _ _ w8 by (repeat (first | exact bl_refl | assumption | (apply bl_then; assumption) | refine bl_alloc ?_ _ | refine bl_drew ?_ | refine bl_drewN ?_ _)))
                  replace fhN := hN.facts
                  go_wp2_with fail
                  go_meet
                  case rel => exact ⟨by rw [HI.out]; rfl, by (repeat (first | exact bl_refl | assumption | (apply bl_then; assumption) | refine bl_alloc ?_ _ | refine bl_drew ?_ | refine bl_drewN ?_ _))⟩
              · as_aux_lemma =>
                  go_wp2_with fail
                  refine (c1 _ (hS1.below (by (repeat (first | exact bl_refl | assumption | (apply bl_then; assumption) | refine bl_alloc ?_ _ | refine bl_drew ?_ | refine bl_drewN ?_ _))))).mono ?_
                  rintro e w6 ⟨rfl, hb6⟩
                  replace hN := hN.below (show Below _ _ w6 by (repeat (first | exact bl_refl | assumption | (apply bl_then; assumption) | refine bl_alloc ?_ _ | refine bl_drew ?_ | refine bl_drewN ?_ _)))
                  replace fhN := hN.facts
                  go_wp2_with fail
                  refine (c2 _ (hS1.below (by (repeat (first | exact bl_refl | assumption | (apply bl_then; assumption) | refine bl_alloc ?_ _ | refine bl_drew ?_ | refine bl_drewN ?_ _))))).mono ?_
                  rintro e w7 ⟨rfl, hb7⟩
                  replace hN := hN.below (show Below _ _ w7 by (repeat (first | exact bl_refl | assumption | (apply bl_then; assumption) | refine bl_alloc ?_ _ | refine bl_drew ?_ | refine bl_drewN ?_ _)))
                  replace fhN := hN.facts
                  go_wp2_with fail
                  refine (c3 _ (hS1.below (by (repeat (first | exact bl_refl | assumption | (apply bl_then; assumption) | refine bl_alloc ?_ _ | refine bl_drew ?_ | refine bl_drewN ?_ _))))).mono ?_
                  rintro e w8 ⟨rfl, hb8⟩
                  replace hN := hN.below (show Below _ _ w8 by (repeat (first | exact bl_refl | assumption | (apply bl_then; assumption) | refine bl_alloc ?_ _ | refine bl_drew ?_ | refine bl_drewN ?_ _)))
                  replace fhN := hN.facts
                  go_wp2_with fail
                  go_meet
                  case rel => exact ⟨by rw [HI.out]; rfl, by (repeat (first | exact bl_refl | assumption | (apply bl_then; assumption) | refine bl_alloc ?_ _ | refine bl_drew ?_ | refine bl_drewN ?_ _))⟩
      case rest =>
        as_aux_lemma =>
          obtain ⟨rfl, hbc⟩ := hcut
          obtain ⟨w5, rfl⟩ : ∃ x, x = wc := ⟨_, rfl⟩
          have hO5 := hO1.below hbc
          have hbw5 := bl_then hbc hbw1
          obtain ⟨q, hq⟩ : ∃ q, isMesh l (x, y, s) = q := ⟨_, rfl⟩
          rw [hq] at HD ⊢
          clear hq HI fN hN hNd hO1 hS1
          cases q
          · have HD2 : Hid (meshLN l (l.take (k + 1)) = meshLN l (l.take k)) := by unfold Hid; rw [HD.out]; simp
            go_wp2
            go_roundw
            case rel => exact ⟨k + 1, by omega, by go_num, by rw [HD2.out]; exact hO5, hbw5⟩
            case measure => simp [intOf]; omega
          · have HD2 : Hid (meshLN l (l.take (k + 1)) = meshLN l (l.take k) ++ [(x, y + 1)]) := HD
            go_wp2_with (at_builtin; refine wpList_appMN hO5 rfl _ _ rfl rfl rfl (by simp) (by omega) hbw5.size ?_; intro v6 w6 hown6 hgr6)
            have hb6 := own_step hO5 hgr6 (by (repeat (first | exact bl_refl | assumption | (apply bl_then; assumption) | refine bl_alloc ?_ _ | refine bl_drew ?_ | refine bl_drewN ?_ _)))
            clear hgr6
            go_wp2
            go_roundw
            case rel => exact ⟨k + 1, by omega, by go_num, by rw [HD2.out]; exact hown6, hb6⟩
            case measure => simp [intOf]; omega
    · have HE : Hid (meshLN l l = meshLN l (l.take k)) := by unfold Hid; rw [List.take_of_length_le (by omega)]
      go_wp2
      go_ret
      exact ⟨_, rfl, by rw [HE.out]; exact hO, hbw⟩
end Go.Proofs.YtpompeancmonbaaGreat

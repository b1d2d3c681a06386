/- A net's numbers, plain. Conditions: the net has no error. -/
import Derived.Test.YtpompeancmonbaaGreatD07
import Derived.Test.YtpompeancmonbaaGreatD15
import Derived.Test.YtpompeancmonbaaGreatD21
import Derived.Test.YtpompeancmonbaaGreatD20
import Derived.Test.YtpompeancmonbaaGreatD22
import Derived.Test.YtpompeancmonbaaGreatD24
import Derived.Test.YtpompeancmonbaaGreatD12
import Derived.Test.YtpompeancmonbaaGreatD36
import Derived.Test.YtpompeancmonbaaGreatD37
import Derived.Test.YtpompeancmonbaaGreatD39
import Derived.Test.YtpompeancmonbaaGreatD34
import Derived.Test.YtpompeancmonbaaGreatD31
import Derived.Test.YtpompeancmonbaaGreatD30
import Derived.Test.YtpompeancmonbaaGreatD27
import Derived.Test.YtpompeancmonbaaGreatD33
namespace Go.Proofs.YtpompeancmonbaaGreat
open Go.RowKit Go.ChangeMaps
set_option maxHeartbeats 4000000
set_option maxRecDepth 100000

/-- a net's numbers -/
structure Nums (l : List Bar) (kn bn mn pn : Nat) (hn : Int) : Prop where
  cnt : cntA l = #[.int .i64 kn, .int .i64 bn, .int .i64 mn, .int .i64 pn, .int .i64 hn]
  knots : (holeK l).length = kn
  bars : l.length = bn
  meshes : (meshLN l l).length = mn
  parts : (partsL l).length = pn
  holes : hn = (bn : Int) - kn + pn - mn
  pos : 0 ≤ hn
  cyc : (mn : Int) + hn = cyc l
  kle : kn ≤ 2 * bn
  mle : mn ≤ bn
  ple : pn ≤ bn
theorem meshL_length (l m : List Bar) : (meshLN l m).length = (m.filter (isMesh l)).length := by unfold meshLN; rw [List.length_map]
theorem nums_of {l : List Bar} (hE : netE l = 0) : ∃ kn bn mn pn hn, Nums l kn bn mn pn hn := by
  have hok := netE_ok hE
  have hd : ∀ b ∈ l, Sided b := fun b hb => (hok.ok b hb).2.2
  have hp := partsL_eq hok.sorted hd
  have hm := mesh_le hok.sorted
  rw [← meshL_length] at hm
  have hc : ((meshLN l l).length : Int) + ((l.length : Int) - (holeK l).length + (partsL l).length - (meshLN l l).length) = cyc l := by
    unfold cyc
    rw [hp]
    omega
  refine ⟨(holeK l).length, l.length, (meshLN l l).length, (partsL l).length, (l.length : Int) - (holeK l).length + (partsL l).length - (meshLN l l).length, ?_, rfl, rfl, rfl, rfl, rfl, by omega, hc, holeK_lenN l, meshL_len l l, prtO_len l _⟩
  unfold cntA
  rw [if_pos hE]
structure LegNums (l : List Bar) (a b c d : Nat) : Prop where
  legs : legsR l = #[.int .i64 0, .int .i64 a, .int .i64 b, .int .i64 c, .int .i64 d]
  sum : a + b + c + d = (holeK l).length
  deg : a + 2 * b + 3 * c + 4 * d = 2 * l.length
theorem legs_of {l : List Bar} (hE : netE l = 0) : ∃ a b c d, LegNums l a b c d := by
  have hok := netE_ok hE
  have hd : ∀ b ∈ l, Sided b := fun b hb => (hok.ok b hb).2.2
  have h4 : ∀ k ∈ holeK l, degN l k ≤ 4 := fun k _ => degN_le hok.nodup hd k
  have h1 := legs_sum l (holeK l) h4
  have h2 := legs_deg l (holeK l) h4
  have h3 := deg_sum (sortedK_nodup (holeK_sorted l)) l (fun b hb => ⟨(holeK_ends l _).2 ⟨b, hb, .inl rfl⟩, (holeK_ends l _).2 ⟨b, hb, .inr rfl⟩⟩)
  have h0 := leg_zero l
  refine ⟨legC l (holeK l) 1, legC l (holeK l) 2, legC l (holeK l) 3, legC l (holeK l) 4, ?_, by omega, by omega⟩
  unfold legsR legA
  rw [if_pos hE, h0]
  rfl
/-- without one bar -/
theorem rank_of {l : List Bar} (hE : netE l = 0) {b : Bar} (hb : b ∈ l) {kn bn mn pn kn' bn' mn' pn' : Nat} {hn hn' : Int} (h : Nums l kn bn mn pn hn) (h' : Nums (wout l [b]) kn' bn' mn' pn' hn') :
    bn = bn' + 1 ∧ ((mn : Int) + hn - mn' - hn' = 0 ∨ (mn : Int) + hn - mn' - hn' = 1 ∧ kn' = kn ∧ pn' = pn) := by
  have hok := netE_ok hE
  obtain ⟨h1, h2, h3⟩ := less_one hok.sorted hb
  have hd : ∀ b ∈ l, Sided b := fun b hb => (hok.ok b hb).2.2
  have hd' : ∀ x ∈ wout l [b], Sided x := fun x hx => hd x ((h2 x).2 (.inr hx))
  have c1 := h.cyc
  have c2 := h'.cyc
  have e1 := h.bars
  have e2 := h'.bars
  have p1 := h.parts
  have p2 := h'.parts
  rw [partsL_eq hok.sorted hd] at p1
  rw [partsL_eq h3 hd'] at p2
  refine ⟨by omega, ?_⟩
  rcases cyc_more h1 h2 with q | ⟨q, q2, q3⟩
  · exact .inl (by omega)
  · exact .inr ⟨by omega, by rw [← h.knots, ← h'.knots, q2], by rw [← p1, ← p2, q3]⟩
/-- the knots of the first parts -/
def kSum (Ls : List (List Bar)) : Nat := (Ls.map fun P => (holeK P).length).sum
theorem kSum_take {Ls : List (List Bar)} {k : Nat} (h : k < Ls.length) : kSum (Ls.take (k + 1)) = kSum (Ls.take k) + (holeK Ls[k]).length := by
  unfold kSum
  rw [List.take_succ_eq_append_getElem h, List.map_append, List.sum_append]
  simp
structure PartsOk (l : List Bar) (Ls : List (List Bar)) : Prop where
  pos : 1 ≤ Ls.length
  net : ∀ P ∈ Ls, netE P = 0 ∧ P ≠ [] ∧ P.length ≤ l.length
  up : ∀ (i j : Nat) (hi : i < Ls.length) (hj : j < Ls.length), i < j → ∃ a b, Ls[i].head? = some a ∧ Ls[j].head? = some b ∧ bltP a b
  knots : kSum Ls = (holeK l).length
  len : Ls.flatten.length = l.length
  set : setB Ls.flatten = l
theorem parts_ok {l : List Bar} (hE : netE l = 0) (hl : l ≠ []) : PartsOk l (partsL l) := by
  have hok := netE_ok hE
  have hd : ∀ b ∈ l, Sided b := fun b hb => (hok.ok b hb).2.2
  rw [partsL_eq hok.sorted hd]
  refine ⟨prt_pos hl, fun P hP => ?_, fun i j hi hj hij => List.pairwise_iff_getElem.1 (heads_up hok.sorted) i j hi hj hij, prt_knots hok.sorted, prt_len hok.sorted, prt_set hok.sorted⟩
  obtain ⟨f1, f2, f3⟩ := part_facts hok.sorted hP
  exact ⟨netE_subN hE f2 f3, f1, length_le_of_sub (sortedB_nodup f2) f3⟩
theorem flat_take_le {Ls : List (List Bar)} (k : Nat) : (Ls.take k).flatten.length ≤ Ls.flatten.length := by
  conv => rhs; rw [← List.take_append_drop k Ls, List.flatten_append, List.length_append]
  omega
theorem kSum_le {Ls : List (List Bar)} (k : Nat) : kSum (Ls.take k) ≤ kSum Ls := by
  unfold kSum
  conv => rhs; rw [← List.take_append_drop k Ls, List.map_append, List.sum_append]
  omega
end Go.Proofs.YtpompeancmonbaaGreat

/- Motions of a net: what the law looks at; numbers, legs, forms, shifts without errors. Conditions: the net has no error. -/
namespace Go.Proofs.YtpompeancmonbaaGreat
open Go.RowKit Go.ChangeMaps
set_option maxHeartbeats 4000000
set_option maxRecDepth 100000

theorem aCount {v : Value} (l : List Bar) (w : World) (h : SlB w v l) (hE : netE l = 0) : Calls Tryz.prog 27 #[v] w (RLEN w (cntA l) 0) := by
  have := apiCount_any l w h
  rwa [hE] at this
theorem aLegs {v : Value} (l : List Bar) (w : World) (h : SlB w v l) (hE : netE l = 0) : Calls Tryz.prog 22 #[v] w (RLEN w (legsR l) 0) := by
  have := apiLegs_any l w h
  rwa [hE] at this
theorem aShift {v : Value} (l : List Bar) (x y : Int) (w : World) (h : SlB w v l) (hE : netE l = 0) (hk : knotE x y = 0) (ha : allIn (l.map (shB (x, y))) = true) : Calls Tryz.prog 7 #[v, .agg #[.int .i64 x, .int .i64 y]] w (RBE w (l.map (shB (x, y))) 0) := by
  have h1 : degE l x y = 0 := by unfold degE; rw [hE, hk]; rfl
  have e1 : shiftE l x y = 0 := by unfold shiftE shE; rw [if_pos h1]; simp [ha]
  have e2 : shiftL l x y = l.map (shB (x, y)) := by unfold shiftL shL; rw [if_pos h1]; simp [ha]
  have := apiShift_any l x y w h
  rwa [e1, e2] at this
theorem NearL.inn {n : Int} {l : List Bar} (h : NearL n l) (hn : n ≤ 90000) : allIn l = true := by
  unfold allIn
  rw [List.all_eq_true]
  intro b hb
  obtain ⟨h1, h2, h3, h4⟩ := h b hb
  unfold inBN
  rw [farB_no (by omega), farB_no (by omega), farB_no (by omega), farB_no (by omega)]
  rfl
/-- what a motion of a net has in common with the net -/
structure Like (l X : List Bar) : Prop where
  net : netE X = 0
  cnt : cntA X = cntA l
  legs : legsR X = legsR l
  can : canL X = canL l
  canE : canE X = 0
  len : X.length = l.length
theorem like_of {l X : List Bar} (hl : NearL 1000 l) (hE : netE l = 0) (hX : NearL 3000 X) (hs : X.Pairwise bltP) (hI : Inv l X) (hlen : l.length ≤ 20) : Like l X := by
  have h1 : netE X = 0 := hX.net (by omega) hs (by rw [hI.len]; omega)
  have c1 := can_near (hl.mono (m := 3000) (by omega)) (by omega) hE
  have c2 := can_near hX (by omega) h1
  exact ⟨h1, hI.cnt hE h1, hI.leg hE h1, by rw [c1.2, c2.2, hI.form], c2.1, hI.len⟩
theorem near_of {l : List Bar} (hE : netE l = 0) (h : ∀ b ∈ l, (-1000 ≤ b.1 ∧ b.1 ≤ 1000) ∧ (-1000 ≤ b.2.1 ∧ b.2.1 ≤ 1000)) : NearL 1000 l := fun b hb => by
  have h1 := netE_bars hE b hb
  have h2 := ((netE_ok hE).ok b hb).2.2
  have h3 : knotE b.1 b.2.1 = 0 := by
    unfold barE at h1
    split at h1
    · rename_i q; exact absurd h1 q
    · rename_i q; exact Decidable.byContradiction fun e => q e
  exact ⟨(h b hb).1, (h b hb).2, h2, (knotE_zero h3).2.2.2.2⟩
/-- all that the law looks at -/
structure Turns (l : List Bar) (x y q : Int) : Prop where
  s : Like l (l.map (shB (x, y)))
  m : Like l (mirN l)
  t : Like l (turnN (qN q) l)
  can : canE l = 0
  inn : allIn (l.map (shB (x, y))) = true
  sBack : (l.map (shB (x, y))).map (shB (-x, -y)) = l
  innB : allIn l = true
  mBack : mirN (mirN l) = l
  tBack : turnN (qN (-q)) (turnN (qN q) l) = l
  once : netE (turnN 1 (mirN l)) = 0
  twice : netE (mirN (turnN 1 (mirN l))) = 0
  back : turnN 1 (mirN (turnN 1 (mirN l))) = l
  len1 : (turnN 1 (mirN l)).length = l.length
  len2 : (mirN (turnN 1 (mirN l))).length = l.length
theorem qN_le (q : Int) : qN q ≤ 3 := by
  have h1 := Int.tmod_lt_of_pos (q.tmod 4 + 4) (b := 4) (by decide)
  unfold qN
  omega
theorem turns_of {l : List Bar} {x y q : Int} (hE : netE l = 0) (hN : NearL 1000 l) (hlen : l.length ≤ 20) (hx : -1000 ≤ x ∧ x ≤ 1000) (hy : -1000 ≤ y ∧ y ≤ 1000) (hk : knotE x y = 0) : Turns l x y q := by
  have hok := netE_ok hE
  have hs := hok.sorted
  have hd := hN.sided
  have hp := (knotE_zero hk).2.2.2.2
  have ns : NearL (1000 + 1000) (l.map (shB (x, y))) := hN.shift hx hy hp
  have nm := hN.mir
  have q3 := qN_le q
  have nt := hN.turn (qN q)
  have n1 := nm.turn 1
  have n2 := n1.mir
  have sm := mirN_sorted hok.nodup
  have dm := mirN_sided hd
  have s1 := turnN_sorted sm dm 1
  have s2 := mirN_sorted (sortedB_nodup s1)
  have L1 : (turnN 1 (mirN l)).length = l.length := by rw [turnN_len, mirN_eq, srtB_length, List.length_map]
  have L2 : (mirN (turnN 1 (mirN l))).length = l.length := by rw [mirN_eq, srtB_length, List.length_map, L1]
  exact {
    s := like_of hN hE (ns.mono (by omega)) (shift_sorted hs _) (inv_shift hs hd _) hlen
    m := like_of hN hE (nm.mono (by omega)) sm (inv_mir hs hd) hlen
    t := like_of hN hE (nt.mono (by omega)) (turnN_sorted hs hd _) (inv_turn hs hd _) hlen
    can := (can_near (hN.mono (m := 3000) (by omega)) (by omega) hE).1
    inn := ns.inn (by omega)
    sBack := shift_back l x y
    innB := hN.inn (by omega)
    mBack := mirN_mirN hs
    tBack := turn_back hs hd (qN_neg q)
    once := n1.net (by omega) s1 (by omega)
    twice := n2.net (by omega) s2 (by omega)
    back := mir_turn_back hs hd
    len1 := L1
    len2 := L2 }
end Go.Proofs.YtpompeancmonbaaGreat

/- Unions and their like without errors. Conditions: the nets have no error. -/
namespace Go.Proofs.YtpompeancmonbaaGreat
open Go.RowKit Go.ChangeMaps
set_option maxHeartbeats 4000000
set_option maxRecDepth 100000

theorem wout_le (a b : List Bar) : (wout a b).length ≤ a.length := List.length_filter_le _ _
theorem meetL_le (a b : List Bar) : (meetL a b).length ≤ a.length := List.length_filter_le _ _
theorem put_zero {K : Bool → Bool → Bool} {a b L : List Bar} (h : twoEN a b = 0) (hm : mergeL K a b = L) (hl : L.length ≤ 4096) : putE K a b = 0 ∧ putL K a b = L := by
  have h1 : putE K a b = 0 := by unfold putE; rw [if_neg (by simp [h]), hm, if_neg (by omega)]
  exact ⟨h1, by unfold putL; rw [if_pos h1, hm]⟩
theorem only_ok {α : Type} (l : List α) : onlyOk 0 l = l := rfl
@[go_sem] theorem eqCN (a b c d e : Int) (w : World) : (Op.equalIn 10000 69 (.agg #[.int .i64 a, .int .i64 b, .int .i64 c, .int .i64 d, .int .i64 e]) (.agg #[.int .i64 a, .int .i64 b, .int .i64 c, .int .i64 d, .int .i64 e])).run Tryz.prog w = .ok true w := by
  rw [run_equalIn_struct w 9999 69 _ _ (by kernel_rfl) (by kernel_rfl)]
  simp [go_sem]
theorem two_zeroN {a b : List Bar} (ha : netE a = 0) (hb : netE b = 0) : twoEN a b = 0 := by unfold twoEN; rw [ha, hb]; rfl
theorem aUnion {v u : Value} (a b : List Bar) (w : World) (h : SlB w v a) (h' : SlB w u b) (ha : netE a = 0) (hb : netE b = 0) (hl : a.length + b.length ≤ 4096) : Calls Tryz.prog 26 #[v, u] w (RBE w (setB (a ++ b)) 0) := by
  have hul : (setB (a ++ b)).length ≤ 4096 := by have := setB_len (a ++ b); simp at this; omega
  obtain ⟨e1, e2⟩ := put_zero (two_zeroN ha hb) (merge_union (netE_ok ha).sorted (netE_ok hb).sorted) hul
  have := apiUnion_any a b w h h'
  rwa [e1, e2] at this
theorem aMinus {v u : Value} (a b : List Bar) (w : World) (h : SlB w v a) (h' : SlB w u b) (ha : netE a = 0) (hb : netE b = 0) : Calls Tryz.prog 17 #[v, u] w (RBE w (wout a b) 0) := by
  obtain ⟨e1, e2⟩ := put_zero (two_zeroN ha hb) (merge_minus (netE_ok ha).sorted (netE_ok hb).sorted) (Nat.le_trans (wout_le a b) (netE_ok ha).len)
  have := apiMinus_any a b w h h'
  rwa [e1, e2] at this
theorem aMeet {v u : Value} (a b : List Bar) (w : World) (h : SlB w v a) (h' : SlB w u b) (ha : netE a = 0) (hb : netE b = 0) : Calls Tryz.prog 25 #[v, u] w (RBE w (meetL a b) 0) := by
  obtain ⟨e1, e2⟩ := put_zero (two_zeroN ha hb) (merge_meet (netE_ok ha).sorted (netE_ok hb).sorted) (Nat.le_trans (meetL_le a b) (netE_ok ha).len)
  have := apiMeet_any a b w h h'
  rwa [e1, e2] at this
theorem aDegree {v : Value} (a : List Bar) (x y : Int) (w : World) (h : SlB w v a) (ha : netE a = 0) (hk : knotE x y = 0) : Calls Tryz.prog 20 #[v, .agg #[.int .i64 x, .int .i64 y]] w (RV w (.tuple #[.int .i64 (degN a (x, y) : Nat), .int .i64 0])) := by
  have e1 : degE a x y = 0 := by unfold degE; rw [ha, hk]; rfl
  have e2 : degR a x y = degN a (x, y) := by unfold degR; rw [if_pos e1]
  have := degree_any a x y w h
  rwa [e1, e2] at this
theorem aNet {v : Value} (a : List Bar) (w : World) (h : SlB w v a) (ha : netE a = 0) : Calls Tryz.prog 11 #[v] w (RV w (.int .i64 0)) := by
  have := rnet_sl a w h
  rwa [ha] at this
theorem aSame {v u : Value} (a b : List Bar) (w : World) (h : SlB w v a) (h' : SlB w u b) (e : a = b) : Calls Tryz.prog 18 #[v, u] w (RV w (.bool true)) := by
  have := sameBars_anyN a b w h h'
  rwa [decide_eq_true e] at this
theorem netE_union {a b : List Bar} (ha : netE a = 0) (hb : netE b = 0) (hl : a.length + b.length ≤ 4096) : netE (setB (a ++ b)) = 0 := by
  refine netE_zero (fun x hx => ?_) (setB_sorted _) (by have := setB_len (a ++ b); simp at this; omega)
  rw [setB_mem, List.mem_append] at hx
  rcases hx with hx | hx
  · exact netE_bars ha x hx
  · exact netE_bars hb x hx
theorem netE_meet {a b : List Bar} (ha : netE a = 0) : netE (meetL a b) = 0 := netE_subN ha ((netE_ok ha).sorted.filter _) fun x hx => ((meet_mem a b x).1 hx).1
theorem netE_wout {a b : List Bar} (ha : netE a = 0) : netE (wout a b) = 0 := netE_subN ha ((netE_ok ha).sorted.filter _) fun x hx => ((wout_memN a b x).1 hx).1
theorem degN_small (l : List Bar) (k : Knot) : degN l k ≤ 2 * l.length := by
  have h1 : (endsL l).count k ≤ (endsL l).length := List.count_le_length
  rw [endsL_len] at h1
  exact h1
end Go.Proofs.YtpompeancmonbaaGreat

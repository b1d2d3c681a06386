/- Motions of a net: what the law looks at; numbers, legs, forms, shifts without errors. Conditions: the net has no error. -/
import Derived.Test.YtkmjcoofkgpanaaGreatDoorB21
import Derived.Test.YtkmjcoofkgpanaaGreatDoorPmiJ
import Derived.Test.YtkmjcoofkgpanaaGreatDoorPeqJ
import Derived.Test.YtkmjcoofkgpanaaGreatDoorB11
import Derived.Test.YtkmjcoofkgpanaaGreatDoorB12
import Derived.Test.YtkmjcoofkgpanaaGreatDoorB09
import Derived.Test.YtkmjcoofkgpanaaGreatDoorB13
namespace Go.Proofs.YtkmjcoofkgpanaaGreatDoor
open Go.RowKit Go.ChangeMaps
set_option maxHeartbeats 4000000
set_option maxRecDepth 100000

theorem aCount {v : Value} (l : List Bar) (w : World) (h : SlB w v l) (hE : netE l = 0) : Calls Tryz.prog 24 #[v] w (RLE w (cntA l) 0) := by
  have := apiCount_any l w h
  rwa [hE] at this
theorem aLegs {v : Value} (l : List Bar) (w : World) (h : SlB w v l) (hE : netE l = 0) : Calls Tryz.prog 32 #[v] w (RLE w (legsR l) 0) := by
  have := apiLegs_any l w h
  rwa [hE] at this
theorem aCanon {v : Value} (l : List Bar) (w : World) (h : SlB w v l) (hE : canE l = 0) : Calls Tryz.prog 29 #[v] w (RBE w (canL l) 0) := by
  have := canon_any l w h
  rwa [hE] at this
theorem aShift {v : Value} (l : List Bar) (x y : Int) (w : World) (h : SlB w v l) (hE : netE l = 0) (hk : knotE x y = 0) (ha : allIn (l.map (shB (x, y))) = true) : Calls Tryz.prog 56 #[v, .agg #[.int .i64 x, .int .i64 y]] w (RBE w (l.map (shB (x, y))) 0) := by
  have h1 : degE l x y = 0 := by unfold degE; rw [hE, hk]; rfl
  have e1 : shiftE l x y = 0 := by unfold shiftE shE; rw [if_pos h1]; simp [ha]
  have e2 : shiftL l x y = l.map (shB (x, y)) := by unfold shiftL shL; rw [if_pos h1]; simp [ha]
  have := apiShift_any l x y w h
  rwa [e1, e2] at this
theorem NearL.inn {n : Int} {l : List Bar} (h : NearL n l) (hn : n ≤ 90000) : allIn l = true := by
  unfold allIn
  rw [List.all_eq_true]
  intro b hb
  obtain ⟨h1, h2, h3, h4⟩ := h b hb
  unfold inB
  rw [farB_no (by omega), farB_no (by omega), farB_no (by omega), farB_no (by omega)]
  rfl
/-- what a motion of a net has in common with the net -/
structure Like (l X : List Bar) : Prop where
  net : netE X = 0
  cnt : cntA X = cntA l
  legs : legsR X = legsR l
  can : canL X = canL l
  canE : canE X = 0
  len : X.length = l.length
theorem like_of {l X : List Bar} (hl : NearL 1000 l) (hE : netE l = 0) (hX : NearL 3000 X) (hs : X.Pairwise bltP) (hI : Inv l X) (hlen : l.length ≤ 20) : Like l X := by
  have h1 : netE X = 0 := hX.net (by omega) hs (by rw [hI.len]; omega)
  have c1 := can_near (hl.mono (m := 3000) (by omega)) (by omega) hE
  have c2 := can_near hX (by omega) h1
  exact ⟨h1, hI.cnt hE h1, hI.leg hE h1, by rw [c1.2, c2.2, hI.form], c2.1, hI.len⟩
theorem near_of {l : List Bar} (hE : netE l = 0) (h : ∀ b ∈ l, (-1000 ≤ b.1 ∧ b.1 ≤ 1000) ∧ (-1000 ≤ b.2.1 ∧ b.2.1 ≤ 1000)) : NearL 1000 l := fun b hb => by
  have h1 := netE_bars hE b hb
  have h2 := ((netE_ok hE).ok b hb).2.2
  have h3 : knotE b.1 b.2.1 = 0 := by
    unfold barE at h1
    split at h1
    · rename_i q; exact absurd h1 q
    · rename_i q; exact Decidable.byContradiction fun e => q e
  exact ⟨(h b hb).1, (h b hb).2, h2, (knotE_zero h3).2.2.2.2⟩
/-- all that the law looks at -/
structure Turns (l : List Bar) (x y q : Int) : Prop where
  s : Like l (l.map (shB (x, y)))
  m : Like l (mirN l)
  t : Like l (turnN (qN q) l)
  can : canE l = 0
  inn : allIn (l.map (shB (x, y))) = true
  sBack : (l.map (shB (x, y))).map (shB (-x, -y)) = l
  innB : allIn l = true
  mBack : mirN (mirN l) = l
  tBack : turnN (qN (-q)) (turnN (qN q) l) = l
  once : netE (turnN 1 (mirN l)) = 0
  twice : netE (mirN (turnN 1 (mirN l))) = 0
  back : turnN 1 (mirN (turnN 1 (mirN l))) = l
  len1 : (turnN 1 (mirN l)).length = l.length
  len2 : (mirN (turnN 1 (mirN l))).length = l.length
theorem qN_le (q : Int) : qN q ≤ 3 := by
  have h1 := Int.tmod_lt_of_pos (q.tmod 4 + 4) (b := 4) (by decide)
  unfold qN
  omega
theorem turns_of {l : List Bar} {x y q : Int} (hE : netE l = 0) (hN : NearL 1000 l) (hlen : l.length ≤ 20) (hx : -1000 ≤ x ∧ x ≤ 1000) (hy : -1000 ≤ y ∧ y ≤ 1000) (hk : knotE x y = 0) : Turns l x y q := by
  have hok := netE_ok hE
  have hs := hok.sorted
  have hd := hN.sided
  have hp := (knotE_zero hk).2.2.2.2
  have ns : NearL (1000 + 1000) (l.map (shB (x, y))) := hN.shift hx hy hp
  have nm := hN.mir
  have q3 := qN_le q
  have nt := hN.turn (qN q)
  have n1 := nm.turn 1
  have n2 := n1.mir
  have sm := mirN_sorted hok.nodup
  have dm := mirN_sided hd
  have s1 := turnN_sorted sm dm 1
  have s2 := mirN_sorted (sortedB_nodup s1)
  have L1 : (turnN 1 (mirN l)).length = l.length := by rw [turnN_len, mirN_eq, srtB_length, List.length_map]
  have L2 : (mirN (turnN 1 (mirN l))).length = l.length := by rw [mirN_eq, srtB_length, List.length_map, L1]
  exact {
    s := like_of hN hE (ns.mono (by omega)) (shift_sorted hs _) (inv_shift hs hd _) hlen
    m := like_of hN hE (nm.mono (by omega)) sm (inv_mir hs hd) hlen
    t := like_of hN hE (nt.mono (by omega)) (turnN_sorted hs hd _) (inv_turn hs hd _) hlen
    can := (can_near (hN.mono (m := 3000) (by omega)) (by omega) hE).1
    inn := ns.inn (by omega)
    sBack := shift_back l x y
    innB := hN.inn (by omega)
    mBack := mirN_mirN hs
    tBack := turn_back hs hd (qN_neg q)
    once := n1.net (by omega) s1 (by omega)
    twice := n2.net (by omega) s2 (by omega)
    back := mir_turn_back hs hd
    len1 := L1
    len2 := L2 }
end Go.Proofs.YtkmjcoofkgpanaaGreatDoor

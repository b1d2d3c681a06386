/- A net's numbers, plain. Conditions: the net has no error. -/
import Derived.Test.YtkmjcoofkgpanaaGreatDoorB21
import Derived.Test.YtkmjcoofkgpanaaGreatDoorPeuJ
import Derived.Test.YtkmjcoofkgpanaaGreatDoorB13
import Derived.Test.YtkmjcoofkgpanaaGreatDoorPmiJ
namespace Go.Proofs.YtkmjcoofkgpanaaGreatDoor
open Go.RowKit Go.ChangeMaps
set_option maxHeartbeats 4000000
set_option maxRecDepth 100000

/-- a net's numbers -/
structure Nums (l : List Bar) (kn bn mn pn : Nat) (hn : Int) : Prop where
  cnt : cntA l = #[.int .i64 kn, .int .i64 bn, .int .i64 mn, .int .i64 pn, .int .i64 hn]
  knots : (holeK l).length = kn
  bars : l.length = bn
  meshes : (meshL l l).length = mn
  parts : (partsL l).length = pn
  holes : hn = (bn : Int) - kn + pn - mn
  pos : 0 ≤ hn
  cyc : (mn : Int) + hn = cyc l
  kle : kn ≤ 2 * bn
  mle : mn ≤ bn
  ple : pn ≤ bn
theorem meshL_length (l m : List Bar) : (meshL l m).length = (m.filter (isMesh l)).length := by unfold meshL; rw [List.length_map]
theorem nums_of {l : List Bar} (hE : netE l = 0) : ∃ kn bn mn pn hn, Nums l kn bn mn pn hn := by
  have hok := netE_ok hE
  have hd : ∀ b ∈ l, Sided b := fun b hb => (hok.ok b hb).2.2
  have hp := partsL_eq hok.sorted hd
  have hm := mesh_le hok.sorted
  rw [← meshL_length] at hm
  have hc : ((meshL l l).length : Int) + ((l.length : Int) - (holeK l).length + (partsL l).length - (meshL l l).length) = cyc l := by
    unfold cyc
    rw [hp]
    omega
  refine ⟨(holeK l).length, l.length, (meshL l l).length, (partsL l).length, (l.length : Int) - (holeK l).length + (partsL l).length - (meshL l l).length, ?_, rfl, rfl, rfl, rfl, rfl, by omega, hc, holeK_len l, meshL_len l l, prtO_len l _⟩
  unfold cntA
  rw [if_pos hE]
structure LegNums (l : List Bar) (a b c d : Nat) : Prop where
  legs : legsR l = #[.int .i64 0, .int .i64 a, .int .i64 b, .int .i64 c, .int .i64 d]
  sum : a + b + c + d = (holeK l).length
  deg : a + 2 * b + 3 * c + 4 * d = 2 * l.length
theorem legs_of {l : List Bar} (hE : netE l = 0) : ∃ a b c d, LegNums l a b c d := by
  have hok := netE_ok hE
  have hd : ∀ b ∈ l, Sided b := fun b hb => (hok.ok b hb).2.2
  have h4 : ∀ k ∈ holeK l, degN l k ≤ 4 := fun k _ => degN_le hok.nodup hd k
  have h1 := legs_sum l (holeK l) h4
  have h2 := legs_deg l (holeK l) h4
  have h3 := deg_sum (sortedK_nodup (holeK_sorted l)) l (fun b hb => ⟨(holeK_ends l _).2 ⟨b, hb, .inl rfl⟩, (holeK_ends l _).2 ⟨b, hb, .inr rfl⟩⟩)
  have h0 := leg_zero l
  refine ⟨legC l (holeK l) 1, legC l (holeK l) 2, legC l (holeK l) 3, legC l (holeK l) 4, ?_, by omega, by omega⟩
  unfold legsR legA
  rw [if_pos hE, h0]
  rfl
/-- without one bar -/
theorem rank_of {l : List Bar} (hE : netE l = 0) {b : Bar} (hb : b ∈ l) {kn bn mn pn kn' bn' mn' pn' : Nat} {hn hn' : Int} (h : Nums l kn bn mn pn hn) (h' : Nums (wout l [b]) kn' bn' mn' pn' hn') :
    bn = bn' + 1 ∧ ((mn : Int) + hn - mn' - hn' = 0 ∨ (mn : Int) + hn - mn' - hn' = 1 ∧ kn' = kn ∧ pn' = pn) := by
  have hok := netE_ok hE
  obtain ⟨h1, h2, h3⟩ := less_one hok.sorted hb
  have hd : ∀ b ∈ l, Sided b := fun b hb => (hok.ok b hb).2.2
  have hd' : ∀ x ∈ wout l [b], Sided x := fun x hx => hd x ((h2 x).2 (.inr hx))
  have c1 := h.cyc
  have c2 := h'.cyc
  have e1 := h.bars
  have e2 := h'.bars
  have p1 := h.parts
  have p2 := h'.parts
  rw [partsL_eq hok.sorted hd] at p1
  rw [partsL_eq h3 hd'] at p2
  refine ⟨by omega, ?_⟩
  rcases cyc_more h1 h2 with q | ⟨q, q2, q3⟩
  · exact .inl (by omega)
  · exact .inr ⟨by omega, by rw [← h.knots, ← h'.knots, q2], by rw [← p1, ← p2, q3]⟩
/-- the knots of the first parts -/
def kSum (Ls : List (List Bar)) : Nat := (Ls.map fun P => (holeK P).length).sum
theorem kSum_take {Ls : List (List Bar)} {k : Nat} (h : k < Ls.length) : kSum (Ls.take (k + 1)) = kSum (Ls.take k) + (holeK Ls[k]).length := by
  unfold kSum
  rw [List.take_succ_eq_append_getElem h, List.map_append, List.sum_append]
  simp
structure PartsOk (l : List Bar) (Ls : List (List Bar)) : Prop where
  pos : 1 ≤ Ls.length
  net : ∀ P ∈ Ls, netE P = 0 ∧ P ≠ [] ∧ P.length ≤ l.length
  up : ∀ (i j : Nat) (hi : i < Ls.length) (hj : j < Ls.length), i < j → ∃ a b, Ls[i].head? = some a ∧ Ls[j].head? = some b ∧ bltP a b
  knots : kSum Ls = (holeK l).length
  len : Ls.flatten.length = l.length
  set : setB Ls.flatten = l
theorem parts_ok {l : List Bar} (hE : netE l = 0) (hl : l ≠ []) : PartsOk l (partsL l) := by
  have hok := netE_ok hE
  have hd : ∀ b ∈ l, Sided b := fun b hb => (hok.ok b hb).2.2
  rw [partsL_eq hok.sorted hd]
  refine ⟨prt_pos hl, fun P hP => ?_, fun i j hi hj hij => List.pairwise_iff_getElem.1 (heads_up hok.sorted) i j hi hj hij, prt_knots hok.sorted, prt_len hok.sorted, prt_set hok.sorted⟩
  obtain ⟨f1, f2, f3⟩ := part_facts hok.sorted hP
  exact ⟨netE_sub hE f2 f3, f1, length_le_of_sub (sortedB_nodup f2) f3⟩
theorem flat_take_le {Ls : List (List Bar)} (k : Nat) : (Ls.take k).flatten.length ≤ Ls.flatten.length := by
  conv => rhs; rw [← List.take_append_drop k Ls, List.flatten_append, List.length_append]
  omega
theorem kSum_le {Ls : List (List Bar)} (k : Nat) : kSum (Ls.take k) ≤ kSum Ls := by
  unfold kSum
  conv => rhs; rw [← List.take_append_drop k Ls, List.map_append, List.sum_append]
  omega
end Go.Proofs.YtkmjcoofkgpanaaGreatDoor

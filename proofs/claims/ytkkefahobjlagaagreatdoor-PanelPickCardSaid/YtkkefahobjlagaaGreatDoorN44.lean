/- The cycles of a net, plain. Conditions: the net is in its order. -/
import Derived.Test.YtkkefahobjlagaaGreatDoorN43
import Derived.Test.YtkkefahobjlagaaGreatDoorN29
import Derived.Test.YtkkefahobjlagaaGreatDoorN26
import Derived.Test.YtkkefahobjlagaaGreatDoorN37
namespace Go.Proofs.YtkkefahobjlagaaGreatDoor
open Go.RowKit Go.ChangeMaps
set_option maxHeartbeats 4000000
set_option maxRecDepth 100000
theorem isMesh_iff (l : List Bar) (b : Bar) : isMesh l b = true ↔ b.2.2 = -1 ∧ (b.1, b.2.1, (1 : Int)) ∈ l ∧ (b.1 - 1, b.2.1 + 1, (1 : Int)) ∈ l ∧ (b.1 + 1, b.2.1 + 1, (-1 : Int)) ∈ l := by
 unfold isMesh hasb
 simp only [Bool.and_eq_true, decide_eq_true_eq, and_assoc]
def mshB (c : Knot) : Nat → Bar
 | 0 => (c.1, c.2 - 1, -1)
 | 1 => (c.1, c.2 - 1, 1)
 | 2 => (c.1 - 1, c.2, 1)
 | _ => (c.1 + 1, c.2, -1)
def MeshAt (l : List Bar) (c : Knot) : Prop := ∀ i, i < 4 → mshB c i ∈ l
theorem meshL_mem (l : List Bar) (c : Knot) : c ∈ meshL l l ↔ MeshAt l c := by
 unfold meshL
 rw [List.mem_map]
 constructor
 ·rintro ⟨b, hb, rfl⟩
  obtain ⟨hb, hm⟩ := List.mem_filter.1 hb
  obtain ⟨h1, h2, h3, h4⟩ := (isMesh_iff l b).1 hm
  obtain ⟨x, y, s⟩ := b
  simp only at h1 h2 h3 h4
  subst h1
  intro i hi
  obtain rfl | rfl | rfl | rfl : i = 0 ∨ i = 1 ∨ i = 2 ∨ i = 3 := by omega
  ·simp only [mshB]; rw [show y + 1 - 1 = y by omega]; exact hb
  ·simp only [mshB]; rw [show y + 1 - 1 = y by omega]; exact h2
  ·exact h3
  ·exact h4
 ·intro h
  refine ⟨mshB c 0, List.mem_filter.2 ⟨h 0 (by omega), (isMesh_iff l _).2 ⟨rfl, h 1 (by omega), ?_, ?_⟩⟩, ?_⟩
  ·have := h 2 (by omega)
   simp only [mshB] at this ⊢
   rw [show c.2 - 1 + 1 = c.2 by omega]; exact this
  ·have := h 3 (by omega)
   simp only [mshB] at this ⊢
   rw [show c.2 - 1 + 1 = c.2 by omega]; exact this
  ·simp only [mshB]; rw [show c.2 - 1 + 1 = c.2 by omega]
theorem meshL_nodup {l : List Bar} (hn : l.Nodup) : (meshL l l).Nodup := by
 unfold meshL
 refine nodup_map (hn.filter _) fun a ha b hb e => ?_
 have h1 := ((isMesh_iff l a).1 (List.mem_filter.1 ha).2).1
 have h2 := ((isMesh_iff l b).1 (List.mem_filter.1 hb).2).1
 obtain ⟨x, y, s⟩ := a
 obtain ⟨x', y', s'⟩ := b
 simp only [Prod.mk.injEq] at *
 omega
theorem shB_lt (d : Knot) {a b : Bar} : bltP (shB d a) (shB d b) ↔ bltP a b := by
 rw [bltP_iff, bltP_iff]; unfold shB; simp only; omega
theorem shift_sorted {l : List Bar} (hs : l.Pairwise bltP) (d : Knot) : (l.map (shB d)).Pairwise bltP := by
 rw [List.pairwise_map]; exact hs.imp fun h => (shB_lt d).2 h
theorem OwRR.shape {base : Nat} {w : World} {v : Value} {Ls : List (List Bar)} (h : OwRR base w v Ls) : ∃ A c, v = .slice A Ls.length c := by
 obtain ⟨ts, h1, h2⟩ := h
 obtain ⟨A, c, rfl⟩ := h1.shape
 exact ⟨A, c, by rw [h2.len]⟩
def cntA (l : List Bar) : Array Value := if netE l = 0 then #[.int .i64 (holeK l).length, .int .i64 l.length, .int .i64 (meshL l l).length, .int .i64 (partsL l).length, .int .i64 ((l.length : Int) - (holeK l).length + (partsL l).length - (meshL l l).length)] else zer5
theorem apiCount_any {v : Value} (l : List Bar) (w : World) (h : SlB w v l) : Calls Tryz.prog 33 #[v] w (RLE w (cntA l) (netE l)) := by
 have h0 := h
 have hB := Blk.new w 70 zer5
 by_cases hE : netE l = 0
 ·have hok := netE_ok hE
  have hE' : (netE l != 0) = false := by simp [hE]
  have hl1 := hok.len1
  have hkl : (holeK l).length ≤ 20000 := by rw [← kIn_all (l := l) (Nat.le_refl _)]; have := kIn_len l (2 * l.length); omega
  have hml := meshL_len l l
  have hpl : (partsL l).length ≤ l.length := prtO_len l _
  have HS : Hid (cntA l = #[.int .i64 (holeK l).length, .int .i64 l.length, .int .i64 (meshL l l).length, .int .i64 (partsL l).length, .int .i64 ((l.length : Int) - (holeK l).length + (partsL l).length - (meshL l l).length)] ∧ netE l = 0) := by
   unfold Hid cntA; rw [if_pos hE]; exact ⟨rfl, hE⟩
  clear hE
  have fB := hB.facts
  have hK1 := fun W (hW : SlB W v l) => nknots_any l W hW hok.ok hl1
  have hM1 := fun W (hW : SlB W v l) => nmeshes_any l W hW hok
  have hP1 := fun W (hW : SlB W v l) => nparts_any l W hW hok
  obtain ⟨kn, hkn⟩ : ∃ n, (holeK l).length = n := ⟨_, rfl⟩
  obtain ⟨ml, hmn⟩ : ∃ n, (meshL l l).length = n := ⟨_, rfl⟩
  obtain ⟨pn, hpn⟩ : ∃ n, (partsL l).length = n := ⟨_, rfl⟩
  rw [hkn, hmn, hpn] at HS
  rw [hkn] at hkl
  rw [hmn] at hml
  rw [hpn] at hpl
  have HN := Lib.hid (And.intro hkn (And.intro hmn hpn))
  clear hkn hmn hpn
  obtain ⟨A, c, rfl, hlc, hcm, hr⟩ := h
  go_enter Tryz.func33, Tryz.ntmps33
  go_wp2_with fail
  refine (nnet_sl l _ (h0.below (by (repeat first|exact J0|assumption|(apply J1;assumption)|apply J2|apply J3|apply J4)))).mono ?_
  rintro e w1 ⟨rfl, hb1⟩
  have hB1 := hB.below hb1
  have hw1 := h0.below (show Below w.heap.size w w1 by (repeat first|exact J0|assumption|(apply J1;assumption)|apply J2|apply J3|apply J4))
  have hbw1 : Below w.heap.size w w1 := by (repeat first|exact J0|assumption|(apply J1;assumption)|apply J2|apply J3|apply J4)
  have fB1 := hB1.facts
  clear fB hb1 hB
  have hb := hbw1
  go_wp2_with fail
  go_at_call 93
  refine (hK1 _ hw1).mono ?_
  rintro e w2 ⟨v2, rfl, hO2, hb2⟩
  obtain ⟨A2, c2, rfl⟩ := hO2.shape
  rw [HN.out.1]
  have hw2 := hw1.below hb2
  have hB2 := hB1.below hb2
  go_wp2_with fail
  go_at_call 94
  refine (hM1 _ hw2).mono ?_
  rintro e w3 ⟨v3, rfl, hO3, hb3⟩
  obtain ⟨A3, c3, rfl⟩ := hO3.shape
  rw [HN.out.2.1]
  have hw3 := hw2.below hb3
  have hB3 := hB2.below hb3
  go_wp2_with fail
  go_at_call 95
  refine (hP1 _ hw3).mono ?_
  rintro e w4 ⟨v4, rfl, hO4, hb4⟩
  obtain ⟨A4, c4, rfl⟩ := hO4.shape
  rw [HN.out.2.2]
  have hB4 := hB3.below hb4
  have hbw4 : Below w.heap.size w w4 := by (repeat first|exact J0|assumption|(apply J1;assumption)|apply J2|apply J3|apply J4)
  clear fB1 hb2 hb3 hb4 hO2 hO3 hO4
  go_wp2_with (refine wpList_store_blk (hB4.alloc _) rfl _ _ _ rfl rfl rfl (by rfl) (by kernel_rfl) (by kernel_rfl) ?_; intro w5 hR5 hc5; have fR5 := hR5.facts)
  have hb5 : Below w.heap.size w w5 := ((Chg.of_below (bl_alloc hbw4 _)).trans (hc5.mono (S' := [w.heap.size]) (by simp))).below (by simp) (Nat.le_refl _)
  refine bodyPost_ret (v := .tuple #[.agg #[.int .i64 kn, .int .i64 l.length, .int .i64 ml, .int .i64 pn, .int .i64 ((l.length : Int) - kn + pn - ml)], .int .i64 0]) (by simp [results, Tryz.results33, go_sem, fR5]) rfl ?_
  exact ⟨by rw [HS.out.1, HS.out.2], hb5⟩
 ·have hE' : (netE l != 0) = true := by simpa using hE
  have HS : Hid (cntA l = zer5) := by unfold Hid cntA; rw [if_neg hE]
  clear hE
  go_enter Tryz.func33, Tryz.ntmps33
  go_wp2_with fail
  refine (nnet_sl l _ (h0.below (by (repeat first|exact J0|assumption|(apply J1;assumption)|apply J2|apply J3|apply J4)))).mono ?_
  rintro e w1 ⟨rfl, hb1⟩
  have hB1 := hB.below hb1
  have hbw1 : Below w.heap.size w w1 := by (repeat first|exact J0|assumption|(apply J1;assumption)|apply J2|apply J3|apply J4)
  go_wp2_with (refine wpList_store_blk hB1 rfl _ _ _ rfl rfl rfl (by rfl) (by kernel_rfl) (by kernel_rfl) ?_; intro w4 hR4 hc4; have fR4 := hR4.facts)
  have hb4 : Below w.heap.size w w4 := ((Chg.of_below hbw1).trans (hc4.mono (S' := [w.heap.size]) (by simp))).below (by simp) (Nat.le_refl _)
  refine bodyPost_ret (v := .tuple #[.agg #[.int .i64 0, .int .i64 0, .int .i64 0, .int .i64 0, .int .i64 0], .int .i64 (netE l)]) (by simp [results, Tryz.results33, go_sem, fR4]) rfl ?_
  exact ⟨by rw [HS.out]; rfl, hb4⟩
def rowK (x y : Int) (i : Nat) : List Knot := (List.range i).map fun (j : Nat) => (x + 2 * (j : Int), y)
theorem rowK_len (x y : Int) (i : Nat) : (rowK x y i).length = i := by simp [rowK]
theorem rowK_mem {x y : Int} {i : Nat} {k : Knot} : k ∈ rowK x y i ↔ k.2 = y ∧ x ≤ k.1 ∧ k.1 < x + 2 * i ∧ (k.1 - x) % 2 = 0 := by
 obtain ⟨a, b⟩ := k
 unfold rowK
 simp only [List.mem_map, List.mem_range, Prod.mk.injEq]
 constructor
 ·rintro ⟨j, hj, rfl, rfl⟩; omega
 ·rintro ⟨rfl, h1, h2, h3⟩
  exact ⟨((a - x) / 2).toNat, by omega, by omega, rfl⟩
theorem rowK_nodup (x y : Int) (i : Nat) : (rowK x y i).Nodup := by
 unfold rowK
 refine nodup_map List.nodup_range fun a _ b _ h => ?_
 simp only [Prod.mk.injEq] at h
 omega
theorem len_same {α : Type} [DecidableEq α] {A B : List α} (hA : A.Nodup) (hB : B.Nodup) (h : ∀ x, x ∈ A ↔ x ∈ B) : A.length = B.length :=
 Nat.le_antisymm (length_le_of_sub hA fun x hx => (h x).1 hx) (length_le_of_sub hB fun x hx => (h x).2 hx)
theorem farB_no {n : Int} (h : -100000 ≤ n ∧ n ≤ 100000) : farB n = false := by
 unfold farB
 rw [decide_eq_false (by omega), decide_eq_false (by omega)]
 rfl
theorem knotE_yes {x y : Int} (hx : -100000 ≤ x ∧ x ≤ 100000) (hy : -100000 ≤ y ∧ y ≤ 100000) (hp : (x + y) % 2 = 0) : knotE x y = 0 := by
 unfold knotE
 rw [farB_no hx, farB_no hy, if_neg (by simp), if_pos hp]
variable {x y : Int} {c r : Nat}
end Go.Proofs.YtkkefahobjlagaaGreatDoor

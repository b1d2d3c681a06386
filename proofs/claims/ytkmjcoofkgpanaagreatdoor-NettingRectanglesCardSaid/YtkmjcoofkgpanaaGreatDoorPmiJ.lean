/- What motions keep, plain. Conditions: bars within bounds. -/
import Derived.Test.YtkmjcoofkgpanaaGreatDoorB21
import Derived.Test.YtkmjcoofkgpanaaGreatDoorPmgJ
import Derived.Test.YtkmjcoofkgpanaaGreatDoorB13
import Derived.Test.YtkmjcoofkgpanaaGreatDoorPmhJ
namespace Go.Proofs.YtkmjcoofkgpanaaGreatDoor
open Go.RowKit Go.ChangeMaps
set_option maxHeartbeats 4000000
set_option maxRecDepth 100000

/-- the bars of a net lie within bounds, on the lattice -/
def NearL (n : Int) (l : List Bar) : Prop := ∀ b ∈ l, (-n ≤ b.1 ∧ b.1 ≤ n) ∧ (-n ≤ b.2.1 ∧ b.2.1 ≤ n) ∧ (b.2.2 = 1 ∨ b.2.2 = -1) ∧ (b.1 + b.2.1) % 2 = 0
theorem farB_no {n : Int} (h : -100000 ≤ n ∧ n ≤ 100000) : farB n = false := by
  unfold farB
  rw [decide_eq_false (by omega), decide_eq_false (by omega)]
  rfl
theorem knotE_yes {x y : Int} (hx : -100000 ≤ x ∧ x ≤ 100000) (hy : -100000 ≤ y ∧ y ≤ 100000) (hp : (x + y) % 2 = 0) : knotE x y = 0 := by
  unfold knotE
  rw [farB_no hx, farB_no hy, if_neg (by simp), if_pos hp]
theorem NearL.bar {n : Int} {l : List Bar} (h : NearL n l) (hn : n ≤ 99000) : ∀ b ∈ l, barE b.1 b.2.1 b.2.2 = 0 := fun b hb => by
  obtain ⟨h1, h2, h3, h4⟩ := h b hb
  unfold barE
  rw [if_neg (by rw [knotE_yes (by omega) (by omega) h4]; simp), if_neg (by omega)]
  exact knotE_yes (by omega) (by omega) (by omega)
theorem NearL.net {n : Int} {l : List Bar} (h : NearL n l) (hn : n ≤ 99000) (hs : l.Pairwise bltP) (hl : l.length ≤ 4096) : netE l = 0 := netE_zero (h.bar hn) hs hl
theorem NearL.sided {n : Int} {l : List Bar} (h : NearL n l) : ∀ b ∈ l, Sided b := fun b hb => (h b hb).2.2.1
theorem NearL.mono {n m : Int} {l : List Bar} (h : NearL n l) (hn : n ≤ m) : NearL m l := fun b hb => by
  obtain ⟨h1, h2, h3, h4⟩ := h b hb
  exact ⟨by omega, by omega, h3, h4⟩
theorem NearL.shift {n m : Int} {l : List Bar} {d : Knot} (h : NearL n l) (h1 : -m ≤ d.1 ∧ d.1 ≤ m) (h2 : -m ≤ d.2 ∧ d.2 ≤ m) (hp : (d.1 + d.2) % 2 = 0) : NearL (n + m) (l.map (shB d)) := fun b hb => by
  obtain ⟨c, hc, rfl⟩ := List.mem_map.1 hb
  obtain ⟨q1, q2, q3, q4⟩ := h c hc
  unfold shB
  simp only
  exact ⟨by omega, by omega, q3, by omega⟩
theorem NearL.mir {n : Int} {l : List Bar} (h : NearL n l) : NearL n (mirN l) := fun b hb => by
  obtain ⟨q1, q2, q3, q4⟩ := h _ ((mirN_mem l b).1 hb)
  unfold mirB at q1 q2 q3 q4
  simp only at q1 q2 q3 q4
  exact ⟨by omega, q2, by omega, by omega⟩
theorem NearL.turn {n : Int} {l : List Bar} (h : NearL n l) : ∀ k : Nat, NearL (n + k) (turnN k l)
  | 0 => by
    have e : turnN 0 l = l := rfl
    rw [e]; exact h.mono (by omega)
  | k + 1 => fun x hx => by
    obtain ⟨b, hb, rfl⟩ := (turnN_mem l x k).1 hx
    obtain ⟨q1, q2, q3, q4⟩ := h.turn k b hb
    rw [turnB_of q3]
    split
    · simp only; exact ⟨by omega, by omega, by simp, by omega⟩
    · simp only; exact ⟨by omega, by omega, by simp, by omega⟩
theorem NearL.frm {n : Int} {l : List Bar} (h : NearL n l) {k : Nat} (hk : k < 8) : NearL (n + 8) (frm l k) := by
  unfold Go.Proofs.YtkmjcoofkgpanaaGreatDoor.frm
  split
  · exact (h.turn k).mono (by omega)
  · exact (h.mir.turn (k - 4)).mono (by omega)
theorem NearL.nrm {n : Int} {l : List Bar} (h : NearL n l) (hn : n ≤ 40000) : allIn (nrm l) = true := by
  unfold allIn
  rw [List.all_eq_true]
  intro x hx
  cases l with
  | nil => simp [Go.Proofs.YtkmjcoofkgpanaaGreatDoor.nrm] at hx
  | cons a r =>
    obtain ⟨p1, p2, p3, p4⟩ := h a (List.mem_cons_self ..)
    unfold Go.Proofs.YtkmjcoofkgpanaaGreatDoor.nrm at hx
    obtain ⟨c, hc, rfl⟩ := List.mem_map.1 hx
    obtain ⟨q1, q2, q3, q4⟩ := h c hc
    unfold inB shB hdK
    simp only
    rw [farB_no (by omega), farB_no (by omega), farB_no (by omega), farB_no (by omega)]
    rfl
theorem NearL.all {n : Int} {l : List Bar} (h : NearL n l) (hn : n ≤ 30000) : ∀ k, k ≤ 8 → allN l k = true
  | 0, _ => rfl
  | k + 1, hk => by rw [allN, h.all hn k (by omega), (h.frm (by omega)).nrm (by omega)]; rfl
theorem can_near {n : Int} {l : List Bar} (h : NearL n l) (hn : n ≤ 30000) (hE : netE l = 0) : canE l = 0 ∧ canL l = bst l 8 := by
  by_cases e : l = []
  · have h8 : bst l 8 = [] := List.eq_nil_of_length_eq_zero (by have := bst_len l 8; rw [e] at this ⊢; simpa using this)
    unfold canE canL
    rw [if_neg (by omega), if_pos e, if_pos (.inr e), h8]
    exact ⟨rfl, rfl⟩
  · unfold canE canL
    rw [if_neg (by omega), if_neg e, if_pos (h.all hn 8 (Nat.le_refl 8)), if_neg (by rintro (q | q); exact q hE; exact e q), if_pos (h.all hn 8 (Nat.le_refl 8))]
    exact ⟨rfl, rfl⟩
/-- what motions keep -/
structure Inv (l l' : List Bar) : Prop where
  len : l'.length = l.length
  knots : (holeK l').length = (holeK l).length
  meshes : (meshL l' l').length = (meshL l l).length
  parts : (partsL l').length = (partsL l).length
  legs : ∀ d, legC l' (holeK l') d = legC l (holeK l) d
  form : bst l' 8 = bst l 8
theorem Inv.trans {a b c : List Bar} (h : Inv a b) (h' : Inv b c) : Inv a c := ⟨h'.len.trans h.len, h'.knots.trans h.knots, h'.meshes.trans h.meshes, h'.parts.trans h.parts, fun d => (h'.legs d).trans (h.legs d), h'.form.trans h.form⟩
theorem inv_of {g : Knot → Knot} {gB : Bar → Bar} (M : Motion g gB) {l l' : List Bar} (hs : l.Pairwise bltP) (hs' : l'.Pairwise bltP) (hd : ∀ b ∈ l, Sided b) (hd' : ∀ b ∈ l', Sided b) (h : Moved gB l l') (hf : bst l' 8 = bst l 8) : Inv l l' :=
  ⟨h.len M hd (sortedB_nodup hs) (sortedB_nodup hs'), h.knots_len M hd, h.meshes_len M hd (sortedB_nodup hs) (sortedB_nodup hs'), by rw [partsL_eq hs' hd', partsL_eq hs hd, h.parts_len M hd], h.legs M hd (sortedB_nodup hs) (sortedB_nodup hs'), hf⟩
theorem inv_shift {l : List Bar} (hs : l.Pairwise bltP) (hd : ∀ b ∈ l, Sided b) (d : Knot) : Inv l (l.map (shB d)) :=
  inv_of (shift_motion d) hs (shift_sorted hs d) hd (shift_sided hd d) (fun _ => List.mem_map) (bst_shift hs hd d)
theorem inv_mir {l : List Bar} (hs : l.Pairwise bltP) (hd : ∀ b ∈ l, Sided b) : Inv l (mirN l) :=
  inv_of mirror_motion hs (mirN_sorted (sortedB_nodup hs)) hd (mirN_sided hd) (fun x => by
    rw [mirN_mem]
    exact ⟨fun h => ⟨mirB x, h, mirB_mirB x⟩, fun ⟨b, hb, e⟩ => by rw [← e, mirB_mirB]; exact hb⟩) (bst_mir hs)
theorem inv_turn1 {l : List Bar} (hs : l.Pairwise bltP) (hd : ∀ b ∈ l, Sided b) : Inv l (turnN 1 l) :=
  inv_of turn_motion hs (turnN_sorted hs hd 1) hd (turnN_sided hd 1) (fun x => turnN_mem l x 0) (bst_turn1 hs hd)
theorem Inv.refl (l : List Bar) : Inv l l := ⟨rfl, rfl, rfl, rfl, fun _ => rfl, rfl⟩
theorem inv_turn {l : List Bar} (hs : l.Pairwise bltP) (hd : ∀ b ∈ l, Sided b) : ∀ k, Inv l (turnN k l)
  | 0 => Inv.refl l
  | k + 1 => by
    have h1 := inv_turn hs hd k
    have h2 := inv_turn1 (turnN_sorted hs hd k) (turnN_sided hd k)
    rw [turnN_add, show 1 + k = k + 1 by omega] at h2
    exact h1.trans h2
theorem Inv.cnt {l l' : List Bar} (h : Inv l l') (h1 : netE l = 0) (h2 : netE l' = 0) : cntA l' = cntA l := by
  unfold cntA
  rw [if_pos h1, if_pos h2, h.len, h.knots, h.meshes, h.parts]
theorem Inv.leg {l l' : List Bar} (h : Inv l l') (h1 : netE l = 0) (h2 : netE l' = 0) : legsR l' = legsR l := by
  unfold legsR legA
  rw [if_pos h1, if_pos h2]
  simp only [h.legs]
theorem shift_back (l : List Bar) (x y : Int) : (l.map (shB (x, y))).map (shB (-x, -y)) = l := by
  rw [List.map_map]
  have : (shB (-x, -y) ∘ shB (x, y)) = id := by
    funext b
    obtain ⟨p, q, s⟩ := b
    simp only [Function.comp, shB, id]
    rw [show p + x + -x = p by omega, show q + y + -y = q by omega]
  rw [this, List.map_id]
theorem qN_neg (q : Int) : (qN (-q) + qN q) % 4 = 0 := by
  have h1 := Int.neg_tmod q 4
  have h2 : -4 < q.tmod 4 ∧ q.tmod 4 < 4 := by
    have a := Int.tmod_lt_of_pos q (b := 4) (by omega)
    have b := Int.tmod_lt_of_pos (-q) (b := 4) (by omega)
    omega
  have h3 : ∀ z : Int, 0 ≤ z → z.tmod 4 = z % 4 := fun z hz => Int.tmod_eq_emod_of_nonneg hz
  unfold qN
  rw [h1, h3 (-(q.tmod 4) + 4) (by omega), h3 (q.tmod 4 + 4) (by omega)]
  omega
end Go.Proofs.YtkmjcoofkgpanaaGreatDoor

/- The motions of a panel's net, plain. Conditions: the panel is valid. -/
import Derived.Test.YtkkefahobjlagaaGreatDoorN46
import Derived.Test.YtkkefahobjlagaaGreatDoorN43
import Derived.Test.YtkkefahobjlagaaGreatDoorN44
import Derived.Test.YtkkefahobjlagaaGreatDoorN32
import Derived.Test.YtkkefahobjlagaaGreatDoorN47
import Derived.Test.YtkkefahobjlagaaGreatDoorN26
namespace Go.Proofs.YtkkefahobjlagaaGreatDoor
open Go.RowKit Go.ChangeMaps
set_option maxHeartbeats 4000000
set_option maxRecDepth 100000
theorem barE_in {x y s : Int} (h : barE x y s = 0) : (-100000 ≤ x ∧ x ≤ 100000) ∧ (-100000 ≤ y ∧ y + 1 ≤ 100000) ∧ (-100000 ≤ x + s ∧ x + s ≤ 100000) ∧ (s = 1 ∨ s = -1) ∧ (x + y) % 2 = 0 := by
 have hs := (barE_ok h).2.2
 unfold barE at h
 split at h
 ·rename_i h1
  exact absurd h (by simpa using h1)
 ·rename_i h1
  obtain ⟨a1, a2, a3, a4, a5⟩ := knotE_zero (by simpa using h1)
  split at h
  ·exact absurd h (by decide)
  ·obtain ⟨b1, b2, b3, b4, b5⟩ := knotE_zero h
   exact ⟨⟨a1, a2⟩, ⟨a3, b4⟩, ⟨b1, b2⟩, hs, a5⟩
theorem barE_put {x y s : Int} (h1 : -100000 ≤ x ∧ x ≤ 100000) (h2 : -100000 ≤ y ∧ y + 1 ≤ 100000) (h3 : -100000 ≤ x + s ∧ x + s ≤ 100000) (hs : s = 1 ∨ s = -1) (hp : (x + y) % 2 = 0) : barE x y s = 0 := by
 unfold barE
 rw [knotE_yes h1 (by omega) hp, if_neg (by simp), if_neg (by omega)]
 exact knotE_yes h3 (by omega) (by omega)
theorem netE_mirN {l : List Bar} (h : netE l = 0) : netE (mirN l) = 0 := by
 have ok := netE_ok h
 refine netE_zero (fun b hb => ?_) (mirN_sorted ok.nodup) (by rw [mirN_eq, srtB_length, List.length_map]; exact ok.len)
 obtain ⟨h1, h2, h3, h4, h5⟩ := barE_in (netE_bars h _ ((mirN_mem l b).1 hb))
 obtain ⟨x, y, s⟩ := b
 unfold mirB at h1 h2 h3 h4 h5
 simp only at h1 h2 h3 h4 h5 ⊢
 exact barE_put (by omega) h2 (by omega) (by omega) (by omega)
theorem turn2_mem {l : List Bar} (hs : ∀ b ∈ l, Sided b) (x : Bar) : x ∈ turnN 2 l ↔ ∃ b ∈ l, x = (-b.1 - b.2.2, -b.2.1 - 1, b.2.2) := by
 constructor
 ·intro hx
  obtain ⟨d, hd, rfl⟩ := (turnN_mem _ _ 1).1 hx
  obtain ⟨e, he, rfl⟩ := (turnN_mem _ _ 0).1 hd
  exact ⟨e, he, turnB_two (hs e he)⟩
 ·rintro ⟨b, hb, rfl⟩
  rw [← turnB_two (hs b hb)]
  exact (turnN_mem _ _ 1).2 ⟨_, (turnN_mem _ _ 0).2 ⟨b, hb, rfl⟩, rfl⟩
theorem netE_two {l : List Bar} (h : netE l = 0) : netE (turnN 2 l) = 0 := by
 have ok := netE_ok h
 have hs : ∀ b ∈ l, Sided b := fun b hb => (ok.ok b hb).2.2
 refine netE_zero (fun b hb => ?_) (turnN_sorted ok.sorted hs 2) (by rw [turnN_len]; exact ok.len)
 obtain ⟨d, hd, rfl⟩ := (turn2_mem hs b).1 hb
 obtain ⟨h1, h2, h3, h4, h5⟩ := barE_in (netE_bars h _ hd)
 simp only
 exact barE_put (by omega) (by omega) (by omega) h4 (by omega)
theorem allIn_of {l : List Bar} (h : netE l = 0) : allIn l = true := by
 unfold allIn
 rw [List.all_eq_true]
 intro b hb
 obtain ⟨h1, h2, h3, h4, h5⟩ := barE_in (netE_bars h _ hb)
 unfold inB
 rw [farB_no h1, farB_no (by omega), farB_no h3, farB_no (by omega)]
 rfl
theorem shift_is {l M : List Bar} {x y : Int} (hE : netE l = 0) (hk : knotE x y = 0) (hM : netE M = 0) (h : l.map (shB (x, y)) = M) : shiftE l x y = 0 ∧ shiftL l x y = M := by
 have h1 : degE l x y = 0 := by unfold degE; rw [hE, hk]; rfl
 unfold shiftE shiftL shE shL
 rw [if_pos h1, if_pos h1, h, if_pos (allIn_of hM), if_pos (allIn_of hM)]
 exact ⟨rfl, rfl⟩
theorem mir_net {p : Pan} (h : panE p = 0) (hN : netE (netL p) = 0) (hM : netE (netL (mirP p)) = 0) : (mirN (netL p)).map (shB (2 * p.2.1, 0)) = netL (mirP p) := by
 have ok := netE_ok hN
 refine sortedB_eq (shift_sorted (mirN_sorted ok.nodup) _) (netE_ok hM).sorted fun x => ?_
 rw [List.mem_map]
 constructor
 ·rintro ⟨c, hc, rfl⟩
  have := mir_bar h ((mirN_mem _ _).1 hc)
  obtain ⟨a, b, s⟩ := c
  unfold mirB at this
  unfold shB
  simp only at this ⊢
  rw [show 2 * p.2.1 - -a = a + 2 * p.2.1 by omega, Int.neg_neg] at this
  rw [Int.add_zero]
  exact this
 ·intro hx
  have := mir_bar (mir_err h) hx
  rw [mir_mir] at this
  refine ⟨(x.1 - 2 * p.2.1, x.2.1, x.2.2), (mirN_mem _ _).2 ?_, ?_⟩
  ·obtain ⟨a, b, s⟩ := x
   unfold mirB
   have e : (mirP p).2.1 = p.2.1 := rfl
   rw [e] at this
   simp only at this ⊢
   rw [show -(a - 2 * p.2.1) = 2 * p.2.1 - a by omega]
   exact this
  ·obtain ⟨a, b, s⟩ := x
   unfold shB
   simp only [Prod.mk.injEq]
   exact ⟨by omega, by omega, trivial⟩
theorem trn_net {p : Pan} (h : panE p = 0) (hw : (trnP p).2.1 ≤ 128) (hN : netE (netL p) = 0) (hM : netE (netL (trnP p)) = 0) : (turnN 2 (netL p)).map (shB (topX p true, heightP p)) = netL (trnP p) := by
 have ok := netE_ok hN
 have okp := panE_zero h
 have hs : ∀ b ∈ netL p, Sided b := fun b hb => (ok.ok b hb).2.2
 have he := trn_err h hw
 have hb2 : topX (trnP p) true = topX p true := by
  have h1 : topX (trnP p) true = topX p true - 0 := congrArg Prod.fst (trn_top okp false)
  omega
 refine sortedB_eq (shift_sorted (turnN_sorted ok.sorted hs 2) _) (netE_ok hM).sorted fun x => ?_
 rw [List.mem_map]
 constructor
 ·rintro ⟨c, hc, rfl⟩
  obtain ⟨b, hb, rfl⟩ := (turn2_mem hs c).1 hc
  have := trn_bar h hw hb
  obtain ⟨a, b, s⟩ := b
  unfold shB
  simp only at this ⊢
  rw [show topX p true - (a + s) = -a - s + topX p true by omega, show heightP p - (b + 1) = -b - 1 + heightP p by omega] at this
  exact this
 ·intro hx
  have := trn_bar he (by rw [trn_trn okp]; exact okp.wid.2) hx
  rw [trn_trn okp, hb2, trn_high okp] at this
  refine ⟨_, (turn2_mem hs _).2 ⟨_, this, rfl⟩, ?_⟩
  obtain ⟨a, b, s⟩ := x
  unfold shB
  simp only [Prod.mk.injEq]
  exact ⟨by omega, by omega, trivial⟩
theorem SameL.rise : ∀ {a b : List Stp}, SameL a b → riseL a = riseL b
 | [], [], _ => rfl
 | [], _ :: _, h => by simp [SameL] at h
 | _ :: _, [], h => by simp [SameL] at h
 | x :: a, y :: b, h => by
  have h0 := h.2 0 (by simp) (by simp)
  simp only [List.getElem_cons_zero] at h0
  have hs : x.1 = y.1 := h0.1
  rw [riseL_cons, riseL_cons, hs, SameL.rise (a := a) (b := b) ⟨by simpa using h.1, fun i h1 h2 => by
   have := h.2 (i + 1) (by simpa using h1) (by simpa using h2)
   simpa using this⟩]
end Go.Proofs.YtkkefahobjlagaaGreatDoor

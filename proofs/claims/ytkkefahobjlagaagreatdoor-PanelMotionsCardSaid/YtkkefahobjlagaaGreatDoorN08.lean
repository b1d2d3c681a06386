/- The knots of a net, of the reference, walked. Conditions: bars within bounds. -/
import Derived.Test.YtkkefahobjlagaaGreatDoorN07
import Derived.Deep.CutRange
namespace Go.Proofs.YtkkefahobjlagaaGreatDoor
open Go.RowKit Go.ChangeMaps
set_option maxHeartbeats 4000000
set_option maxRecDepth 100000
def endK (b : Bar) : Nat → Knot
 | 0 => lowK b
 | _ => uppK b
def endsL (l : List Bar) : List Knot := l.flatMap fun b => [lowK b, uppK b]
theorem endsL_len (l : List Bar) : (endsL l).length = 2 * l.length := by
 induction l with
 | nil => rfl
 | cons b r ih => simp only [endsL, List.flatMap_cons, List.length_append, List.length_cons, List.length_nil] at ih ⊢; omega
theorem holeIn_ends : ∀ (l : List Bar) (o : List Knot), holeIn o l = (endsL l).foldl insK o
 | [], o => rfl
 | b :: r, o => by
  show holeIn (insK (insK o (lowK b)) (uppK b)) r = _
  rw [holeIn_ends r]
  rfl
def kIn (l : List Bar) (n : Nat) : List Knot := ((endsL l).take n).foldl insK []
theorem kIn_all {l : List Bar} {n : Nat} (h : 2 * l.length ≤ n) : kIn l n = holeK l := by
 unfold kIn holeK
 rw [holeIn_ends, List.take_of_length_le (by rw [endsL_len]; exact h)]
theorem foldK_len : ∀ (m o : List Knot), (m.foldl insK o).length ≤ o.length + m.length
 | [], o => by simp
 | k :: m, o => by
  have h := foldK_len m (insK o k)
  have h1 := insK_len k o
  simp only [List.foldl_cons, List.length_cons]
  omega
theorem kIn_len (l : List Bar) (n : Nat) : (kIn l n).length ≤ 2 * l.length := by
 have := foldK_len ((endsL l).take n) []
 have h2 : ((endsL l).take n).length ≤ (endsL l).length := by rw [List.length_take]; omega
 rw [endsL_len] at h2
 simp only [List.length_nil] at this
 unfold kIn
 omega
theorem Blk.two_knots {w : World} {g : Nat} {t : TypeId} {x y x' y' : Int} (hB : Blk w g t #[.int .i64 x, .int .i64 y, .int .i64 x', .int .i64 y']) : SlK w (.slice (some ⟨g, 0, none⟩) 2 2) [(x, y), (x', y')] := by
 refine ⟨_, 2, rfl, by simp, by simp [maxLen], fun i b hb => ?_⟩
 match i, hb with
 | 0, hb =>
  obtain rfl : (x, y) = b := by simpa using hb
  refine ⟨_, 0, rfl, hB.lt, fun j u hj => ?_⟩
  rw [hB.cell]
  match j, hj with
  | 0, hj => simpa [kc] using hj
  | 1, hj => simpa [kc] using hj
 | 1, hb =>
  obtain rfl : (x', y') = b := by simpa using hb
  refine ⟨_, 0, rfl, hB.lt, fun j u hj => ?_⟩
  rw [hB.cell]
  match j, hj with
  | 0, hj => simpa [kc] using hj
  | 1, hj => simpa [kc] using hj
theorem endsL_mem (l : List Bar) (k : Knot) : k ∈ endsL l ↔ ∃ b ∈ l, k = lowK b ∨ k = uppK b := by
 unfold endsL
 simp [List.mem_flatMap]
theorem endsL_take {l : List Bar} {k : Nat} (hk : k < l.length) : endsL (l.take (k + 1)) = endsL (l.take k) ++ [lowK l[k], uppK l[k]] := by
 unfold endsL
 rw [List.take_succ_eq_append_getElem hk, List.flatMap_append]; rfl
theorem knots_eq (l : List Bar) : ddL (srtK (endsL l)) = holeK l :=
 sortedK_eq (dd_sorted kltP_tr (sorted_of ltK_iff swoK (fun _ _ => kltP_tri) _)) (holeK_sorted l) fun k => by
  rw [dd_mem, srtK_mem, endsL_mem]
  unfold holeK
  rw [holeIn_mem]
  simp
theorem nknots_any {v : Value} (l : List Bar) (w : World) (h : SlB w v l) (hk : ∀ b ∈ l, BarOk b) (hlen : l.length ≤ 10000) : Calls Tryz.prog 93 #[v] w (RK w (holeK l)) := by
 obtain ⟨A, c, rfl, hlc, hcm, h⟩ := h
 have HK := Lib.hid hk
 clear hk
 go_enter Tryz.func93, Tryz.ntmps93
 go_wp2
 go_loopw [3, 9] (fun o i wr => ∃ k : Nat, k ≤ l.length ∧ i = .int .i64 k ∧ OwK w.heap.size wr o (endsL (l.take k)) ∧ Below w.heap.size w wr) (fun _ i _ => l.length - (intOf i).toNat)
 case atStart => exact ⟨0, Nat.zero_le _, rfl, Own.nil_, by (repeat first|exact J0|assumption|(apply J1;assumption)|apply J2|apply J3|apply J4)⟩
 case round =>
  obtain ⟨k, hk, rfl, hO, hbw⟩ := hrel
  obtain ⟨wo, rfl⟩ : ∃ x, x = wr := ⟨_, rfl⟩
  by_cases hlt : k < l.length
  ·have hr := h.below hbw
   obtain ⟨b, off, rfl, hb, e0, e1, e2⟩ := hr.bar hlt
   have hbo := HK.out _ (List.getElem_mem hlt)
   have HD := Lib.hid (endsL_take hlt)
   have hll := endsL_len (l.take k)
   have htk : (l.take k).length ≤ 10000 := by simp; omega
   obtain ⟨⟨x, y, s⟩, hx⟩ : ∃ z, l[k] = z := ⟨_, rfl⟩
   rw [hx] at e0 e1 e2 hbo HD
   simp only at e0 e1 e2
   clear hx
   obtain ⟨q1, q2, q3⟩ := hbo
   simp only at q1 q2 q3
   have hOa := hO.alloc (.cells #[.int .i64 x, .int .i64 y, .int .i64 s] 77)
   go_wp2_with fail
   refine (nends_any _ _ _ (by omega) (by omega) (by omega) _).mono ?_
   rintro e w1 ⟨rfl, hb1⟩
   have hO1 := hOa.below hb1
   have hbw1 : Below w.heap.size w w1 := by (repeat first|exact J0|assumption|(apply J1;assumption)|apply J2|apply J3|apply J4)
   have hB1 := Blk.new w1 207 #[.int .i64 x, .int .i64 y, .int .i64 (x + s), .int .i64 (y + 1)]
   have hO2 := hO1.alloc (.cells #[.int .i64 x, .int .i64 y, .int .i64 (x + s), .int .i64 (y + 1)] 207)
   go_wp2_with (at_builtin; refine wpList_appKS hO2 hB1.two_knots rfl _ _ rfl rfl rfl (by simp; omega) (Below.size (show Below w.heap.size w (w1.alloc (.cells #[.int .i64 x, .int .i64 y, .int .i64 (x + s), .int .i64 (y + 1)] 207)) by (repeat first|exact J0|assumption|(apply J1;assumption)|apply J2|apply J3|apply J4))) ?_; intro v3 w3 hown3 hgr3)
   have hb3 := own_step hO2 hgr3 (by (repeat first|exact J0|assumption|(apply J1;assumption)|apply J2|apply J3|apply J4))
   clear hgr3
   go_wp2
   go_roundw
   case rel => exact ⟨k + 1, by omega, by go_num, by rw [HD.out]; exact hown3, hb3⟩
   case measure => simp [intOf]; omega
  ·have HE : Hid (endsL l = endsL (l.take k)) := by unfold Hid; rw [List.take_of_length_le (by omega)]
   have hO3 : OwK w.heap.size wo _ (endsL l) := HE.out ▸ hO
   have hel := endsL_len l
   go_wp2_with fail
   refine (sortK_any _ _ hO3 (by omega)).mono ?_
   rintro e w4 ⟨rfl, hO4, hg4⟩
   have hb4 := own_step hO3 hg4 hbw
   go_wp2_with fail
   refine (compactK_any _ _ hO4 (by rw [srtK_length]; omega)).mono ?_
   rintro e w5 ⟨v5, rfl, hO5, hg5⟩
   have hb5 := own_step hO4 hg5 hb4
   rw [knots_eq] at hO5
   go_wp2
   go_ret
   exact ⟨_, rfl, hO5, hb5⟩
@[go_sem] theorem mk_map {P : Program} (t : TypeId) (w : World) : (Instr.makeMap t none).run P w = .ok (.map (some w.heap.size)) (w.alloc (.map #[] 0)) := rfl
theorem zero_int (w : World) : (zeroValue 3).run Tryz.prog w = .ok (.int .i64 0) w := by kernel_rfl
def cntO (n : Nat) : Option Nat := if n = 0 then none else some n
def RBE (w : World) (l : List Bar) (n : Int) (e : Ending) (w' : World) : Prop := ∃ v, e = .returned (.tuple #[v, .int .i64 n]) ∧ OwB w.heap.size w' v l ∧ Below w.heap.size w w'
theorem nnet_sl {v : Value} (l : List Bar) (w : World) (h : SlB w v l) : Calls Tryz.prog 77 #[v] w (RV w (.int .i64 (netE l))) := by
 obtain ⟨A, c, rfl, hlc, hcm, h⟩ := h
 exact nnet_any l A c w (Nat.le_trans hlc hcm) h
theorem NetOk.len1 {l : List Bar} (h : NetOk l) : l.length ≤ 10000 := Nat.le_trans h.len (by decide)
def onlyOk {α : Type} (e : Int) (l : List α) : List α := if e = 0 then l else []
def degE (l : List Bar) (x y : Int) : Int := firstI [netE l, knotE x y]
end Go.Proofs.YtkkefahobjlagaaGreatDoor

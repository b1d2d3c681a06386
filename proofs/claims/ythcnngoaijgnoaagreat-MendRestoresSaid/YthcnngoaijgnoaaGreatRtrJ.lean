/- The least trimming with some bars at most, of the reference, walked. Conditions: bars within bounds, short lists. -/
import Derived.Test.YthcnngoaijgnoaaGreatK11
import Derived.Test.YthcnngoaijgnoaaGreatRlsJ
namespace Go.Proofs.YthcnngoaijgnoaaGreat
open Go.RowKit Go.ChangeMaps
set_option maxHeartbeats 4000000
set_option maxRecDepth 100000

def rtrF (D S : List Bar) : Nat → Nat → Option (List Bar)
  | 0, _ => none
  | f + 1, n => match rls n D S with
    | some z => some z
    | none => rtrF D S f (n + 1)
theorem rtrim_any {v u : Value} (N D : List Bar) (m : Nat) (hm : m ≤ 4) (w : World) (hN : SlB w v N) (hD : SlB w u D) (hkN : ∀ b ∈ N, BarOk b) (hk : ∀ b ∈ D, BarOk b) (hlN : N.length ≤ 900) (hlD : D.length ≤ 900) :
    Calls Tryz.prog 49 #[.agg #[v, u], .int .i64 m] w (ROB w (rtrF D (wout N D) (m + 1) 0)) := by
  have hB := Blk.new w 24 #[v, u]
  have hSok : ∀ b ∈ wout N D, BarOk b := fun b hb => hkN b (List.mem_filter.1 hb).1
  have hSl : (wout N D).length ≤ 1000 := by have := wout_len N D; omega
  have hsn := fun X (hX : SlB X v N) (hY : SlB X u D) => rsound_any N D X hX hY (by omega)
  have hls := fun (n : Nat) (hn : n ≤ 4) (s : Value) X (hX : SlB X v N) (hY : SlB X u D) (hZ : SlB X s (wout N D)) => rleast_any N (wout N D) hSok hSl n D 0 v u s X hX hY hZ hk (by omega) (Nat.zero_le _)
  simp only [List.drop_zero] at hls
  obtain ⟨S, hS⟩ : ∃ S, wout N D = S := ⟨_, rfl⟩
  rw [hS] at hsn hls ⊢
  clear hSok hSl hS
  go_enter Tryz.func49, Tryz.ntmps49
  go_wp2
  go_loopw [6] (fun i wr => ∃ n : Nat, n ≤ m + 1 ∧ i = .int .i64 n ∧ Hid (rtrF D S (m + 1) 0 = rtrF D S (m + 1 - n) n) ∧ Blk wr w.heap.size 24 #[v, u] ∧ Below w.heap.size w wr) (fun i _ => m + 1 - (intOf i).toNat)
  case atStart => exact ⟨0, Nat.zero_le _, rfl, rfl, hB, by (repeat (first | exact bl_refl | assumption | (apply bl_then; assumption) | refine bl_alloc ?_ _ | refine bl_drew ?_ | refine bl_drewN ?_ _))⟩
  case round =>
    clear hB
    obtain ⟨n, hn, rfl, H, hB, hbw⟩ := hrel
    have fB := hB.facts
    by_cases hlt : n ≤ m
    · have hlt' : ((n : Int) ≤ (m : Int)) = True := by simp; omega
      have hl1 := fun (s : Value) X (hX : SlB X v N) (hY : SlB X u D) (hZ : SlB X s S) => hls n (by omega) s X hX hY hZ
      have HT : Hid (rtrF D S (m + 1 - n) n = match rls n D S with | some z => some z | none => rtrF D S (m - n) (n + 1)) := by
        unfold Hid
        rw [show m + 1 - n = (m - n) + 1 by omega]; rfl
      obtain ⟨o, ho⟩ : ∃ o, rls n D S = o := ⟨_, rfl⟩
      rw [ho] at hl1 HT
      clear ho
      cases o with
      | none =>
        go_wp2
        refine wp_region_ords [0, 1, 3] [(2, false), (4, false), (5, false), (6, true), (7, true), (8, false)] [9] (by kernel_rfl) (by kernel_rfl) (fun d _ _ _ _ h => by cases d <;> exact h) ?_
        simp only [List.map_cons, List.map_nil, List.getD_cons_zero, List.getD_cons_succ]
        repeat (go_big_quiet_step (fail))
        refine wpQuiet_nil ?_
        refine wpMid_run rfl (fun K hK => ?_)
        go_simp
        refine (hsn _ (hN.below (by (repeat (first | exact bl_refl | assumption | (apply bl_then; assumption) | refine bl_alloc ?_ _ | refine bl_drew ?_ | refine bl_drewN ?_ _)))) (hD.below (by (repeat (first | exact bl_refl | assumption | (apply bl_then; assumption) | refine bl_alloc ?_ _ | refine bl_drew ?_ | refine bl_drewN ?_ _))))).mono ?_
        rintro e w4 ⟨u4, rfl, hown4, hb4⟩
        refine hK _ _ (by (repeat (first | exact bl_refl | assumption | (apply bl_then; assumption) | refine bl_alloc ?_ _ | refine bl_drew ?_ | refine bl_drewN ?_ _))) ?_
        clear hK K
        refine wpMid_run rfl (fun K hK => ?_)
        go_simp
        refine (hl1 _ _ (hN.below (by (repeat (first | exact bl_refl | assumption | (apply bl_then; assumption) | refine bl_alloc ?_ _ | refine bl_drew ?_ | refine bl_drewN ?_ _)))) (hD.below (by (repeat (first | exact bl_refl | assumption | (apply bl_then; assumption) | refine bl_alloc ?_ _ | refine bl_drew ?_ | refine bl_drewN ?_ _)))) (hown4.rd bc_len)).mono ?_
        rintro e w5 ⟨v5, rfl, hown5, hb5⟩
        refine hK _ _ (by (repeat (first | exact bl_refl | assumption | (apply bl_then; assumption) | refine bl_alloc ?_ _ | refine bl_drew ?_ | refine bl_drewN ?_ _))) ?_
        clear hK K
        refine wpMid_run rfl (fun K hK => ?_)
        go_simp
        refine hK _ _ (by (repeat (first | exact bl_refl | assumption | (apply bl_then; assumption) | refine bl_alloc ?_ _ | refine bl_drew ?_ | refine bl_drewN ?_ _))) ?_
        clear hK K
        refine wpMid_take rfl ?_
        intro K hK
        go_big_quiet_op
        go_big_quiet_on
        refine wpMid_take rfl ?_
        intro K hK
        go_big_quiet_op
        go_big_quiet_on
        refine wpMid_run rfl (fun K hK => ?_)
        go_simp
        refine hK _ _ (by (repeat (first | exact bl_refl | assumption | (apply bl_then; assumption) | refine bl_alloc ?_ _ | refine bl_drew ?_ | refine bl_drewN ?_ _))) ?_
        clear hK K
        refine wpMid_nil ?_
        go_wp2
        go_roundw
        case rel => exact ⟨n + 1, by omega, by go_num, by unfold Hid; rw [H.out, HT.out, show m + 1 - (n + 1) = m - n by omega], hB.below (show Below wr.heap.size wr w5 by (repeat (first | exact bl_refl | assumption | (apply bl_then; assumption) | refine bl_alloc ?_ _ | refine bl_drew ?_ | refine bl_drewN ?_ _))), by (repeat (first | exact bl_refl | assumption | (apply bl_then; assumption) | refine bl_alloc ?_ _ | refine bl_drew ?_ | refine bl_drewN ?_ _))⟩
        case measure => simp [intOf]; omega
      | some z =>
        have HE : Hid (rtrF D S (m + 1) 0 = some z) := by unfold Hid; rw [H.out, HT.out]
        go_wp2
        refine wp_region_ords [0, 1, 3] [(2, false), (4, false), (5, false), (6, true), (7, true), (8, false)] [9] (by kernel_rfl) (by kernel_rfl) (fun d _ _ _ _ h => by cases d <;> exact h) ?_
        simp only [List.map_cons, List.map_nil, List.getD_cons_zero, List.getD_cons_succ]
        repeat (go_big_quiet_step (fail))
        refine wpQuiet_nil ?_
        refine wpMid_run rfl (fun K hK => ?_)
        go_simp
        refine (hsn _ (hN.below (by (repeat (first | exact bl_refl | assumption | (apply bl_then; assumption) | refine bl_alloc ?_ _ | refine bl_drew ?_ | refine bl_drewN ?_ _)))) (hD.below (by (repeat (first | exact bl_refl | assumption | (apply bl_then; assumption) | refine bl_alloc ?_ _ | refine bl_drew ?_ | refine bl_drewN ?_ _))))).mono ?_
        rintro e w4 ⟨u4, rfl, hown4, hb4⟩
        refine hK _ _ (by (repeat (first | exact bl_refl | assumption | (apply bl_then; assumption) | refine bl_alloc ?_ _ | refine bl_drew ?_ | refine bl_drewN ?_ _))) ?_
        clear hK K
        refine wpMid_run rfl (fun K hK => ?_)
        go_simp
        refine (hl1 _ _ (hN.below (by (repeat (first | exact bl_refl | assumption | (apply bl_then; assumption) | refine bl_alloc ?_ _ | refine bl_drew ?_ | refine bl_drewN ?_ _)))) (hD.below (by (repeat (first | exact bl_refl | assumption | (apply bl_then; assumption) | refine bl_alloc ?_ _ | refine bl_drew ?_ | refine bl_drewN ?_ _)))) (hown4.rd bc_len)).mono ?_
        rintro e w5 ⟨v5, rfl, hown5, hb5⟩
        refine hK _ _ (by (repeat (first | exact bl_refl | assumption | (apply bl_then; assumption) | refine bl_alloc ?_ _ | refine bl_drew ?_ | refine bl_drewN ?_ _))) ?_
        clear hK K
        refine wpMid_run rfl (fun K hK => ?_)
        go_simp
        refine hK _ _ (by (repeat (first | exact bl_refl | assumption | (apply bl_then; assumption) | refine bl_alloc ?_ _ | refine bl_drew ?_ | refine bl_drewN ?_ _))) ?_
        clear hK K
        refine wpMid_take rfl ?_
        intro K hK
        go_big_quiet_op
        go_big_quiet_on
        refine wpMid_take rfl ?_
        intro K hK
        go_big_quiet_op
        go_big_quiet_on
        refine wpMid_run rfl (fun K hK => ?_)
        go_simp
        refine hK _ _ (by (repeat (first | exact bl_refl | assumption | (apply bl_then; assumption) | refine bl_alloc ?_ _ | refine bl_drew ?_ | refine bl_drewN ?_ _))) ?_
        clear hK K
        refine wpMid_nil ?_
        go_wp2
        go_ret2
        exact ⟨_, by rw [HE.out]; rfl, by rw [HE.out]; exact hown5.base_mono (Below.size (show Below w.heap.size w w4 by (repeat (first | exact bl_refl | assumption | (apply bl_then; assumption) | refine bl_alloc ?_ _ | refine bl_drew ?_ | refine bl_drewN ?_ _)))), by (repeat (first | exact bl_refl | assumption | (apply bl_then; assumption) | refine bl_alloc ?_ _ | refine bl_drew ?_ | refine bl_drewN ?_ _))⟩
    · have hlt' : ((n : Int) ≤ (m : Int)) = False := by simp; omega
      have HE : Hid (rtrF D S (m + 1) 0 = none) := by unfold Hid; rw [H.out, show m + 1 - n = 0 by omega]; rfl
      go_wp2
      go_ret2
      exact ⟨.slice none 0 0, by rw [HE.out]; rfl, by rw [HE.out]; exact Own.nil_, by (repeat (first | exact bl_refl | assumption | (apply bl_then; assumption) | refine bl_alloc ?_ _ | refine bl_drew ?_ | refine bl_drewN ?_ _))⟩
end Go.Proofs.YthcnngoaijgnoaaGreat

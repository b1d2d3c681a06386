/- The least trimming, of the reference, walked. Conditions: bars within bounds, short lists. -/
import Derived.Test.YthcnngoaijgnoaaGreatK11
import Derived.Test.YthcnngoaijgnoaaGreatRcwJ
namespace Go.Proofs.YthcnngoaijgnoaaGreat
open Go.RowKit Go.ChangeMaps
set_option maxHeartbeats 4000000
set_option maxRecDepth 100000

def tryR (f : List Bar → List Bar → Option (List Bar)) (D : List Bar) : List Bar → Option (List Bar)
  | [] => none
  | x :: r => match f (tog D [x]) r with
    | some z => some (x :: z)
    | none => tryR f D r
def rls : Nat → List Bar → List Bar → Option (List Bar)
  | 0, D, _ => if rdyB D then some [] else none
  | n + 1, D, l => tryR (rls n) D l
theorem tryR_drop {f : List Bar → List Bar → Option (List Bar)} {D l : List Bar} {k : Nat} (hk : k < l.length) : tryR f D (l.drop k) = match f (tog D [l[k]]) (l.drop (k + 1)) with
    | some z => some (l[k] :: z)
    | none => tryR f D (l.drop (k + 1)) := by
  rw [List.drop_eq_getElem_cons hk, tryR]
theorem rls_len : ∀ (n : Nat) (D l z : List Bar), rls n D l = some z → z.length = n
  | 0, D, l, z, h => by
    unfold rls at h
    split at h
    · obtain rfl := Option.some.inj h; rfl
    · cases h
  | n + 1, D, l, z, h => by
    unfold rls at h
    induction l with
    | nil => cases h
    | cons x r ih =>
      unfold tryR at h
      split at h
      · rename_i y hy
        obtain rfl := Option.some.inj h
        rw [List.length_cons, rls_len n _ _ _ hy]
      · exact ih h
theorem sl_mid {w : World} {b off c : Nat} {l : List Bar} (h : Rd bc 3 w (some ⟨b, off, none⟩) l) {k : Nat} (hk : k < l.length) (hlc : l.length ≤ c) (hc : c ≤ maxLen) : SlB w (.slice (some ⟨b, off + k * 3, none⟩) 1 (c - k)) [l[k]] := by
  refine ⟨_, _, rfl, by simp; omega, by omega, fun i x hx => ?_⟩
  match i, hx with
  | 0, hx =>
    obtain rfl : l[k] = x := by simpa using hx
    obtain ⟨b', off', e', hb, hc2⟩ := h k l[k] (List.getElem?_eq_getElem hk)
    obtain ⟨rfl, rfl⟩ : b = b' ∧ off = off' := by simpa using e'
    refine ⟨b, off + k * 3, rfl, hb, fun j u hu => ?_⟩
    have := hc2 j u hu
    rwa [show off + k * 3 + 0 * 3 + j = off + k * 3 + j by omega]
theorem tog_ok {D : List Bar} {x : Bar} (hD : ∀ b ∈ D, BarOk b) (hx : BarOk x) : (∀ b ∈ tog D [x], BarOk b) ∧ (tog D [x]).length ≤ D.length + 1 := by
  refine ⟨fun b hb => ?_, by simpa using tog_len [x] D⟩
  unfold tog at hb
  simp only [List.foldl_cons, List.foldl_nil] at hb
  split at hb
  · exact hD b hb
  · have : ∀ l : List Bar, b ∈ insB l x → b = x ∨ b ∈ l := by
      intro l
      induction l with
      | nil => intro h; simpa [insB] using h
      | cons y r ih =>
        intro h
        unfold insB at h
        split at h
        · rcases List.mem_cons.1 h with rfl | h
          · simp
          · rcases ih h with h | h <;> simp [h]
        · simpa using h
    rcases this D hb with rfl | h
    · exact hx
    · exact hD b h
theorem rleast_any (N S : List Bar) (hS : ∀ b ∈ S, BarOk b) (hSl : S.length ≤ 1000) : ∀ (n : Nat) (D : List Bar) (k0 : Nat) (v u s : Value) (w : World), SlB w v N → SlB w u D → SlB w s S → (∀ b ∈ D, BarOk b) → D.length + n ≤ 1000 → k0 ≤ S.length →
    Calls Tryz.prog 109 #[.agg #[v, u], s, .int .i64 k0, .int .i64 n] w (ROB w (rls n D (S.drop k0))) := by
  intro n
  induction n with
  | zero =>
    intro D k0 v u s w hN hD hs hk hlen hk0
    have hB := Blk.new w 24 #[v, u]
    have fB := hB.facts
    go_enter Tryz.func109, Tryz.ntmps109
    go_wp2_with (go_at_call 25; refine (rready_any D _ (hD.alloc _) hk (by omega)).mono ?_; rintro e w1 ⟨rfl, hb1⟩)
    go_ret2
    exact ⟨.slice none 0 0, by unfold rls; cases rdyB D <;> rfl, by unfold rls; cases rdyB D <;> exact Own.nil_, by (repeat (first | exact bl_refl | assumption | (apply bl_then; assumption) | refine bl_alloc ?_ _ | refine bl_drew ?_ | refine bl_drewN ?_ _))⟩
  | succ n IH =>
    intro D k0 v u s w hN hD hs hk hlen hk0
    rw [show ((n + 1 : Nat) : Int) = (n : Int) + 1 from rfl]
    have hs' := hs
    obtain ⟨A, c, rfl, hlc, hcm, h⟩ := hs'
    have hB := Blk.new w 24 #[v, u]
    have fB := hB.facts
    have hn0 : (((n : Int) + 1) == 0) = false := by simp; omega
    have HS := Lib.hid hS
    go_enter Tryz.func109, Tryz.ntmps109
    go_wp2
    go_loopw [10] (fun i wr => ∃ k : Nat, k ≤ S.length ∧ i = .int .i64 k ∧ Hid (rls (n + 1) D (S.drop k0) = tryR (rls n) D (S.drop k)) ∧ Blk wr w.heap.size 24 #[v, u] ∧ Below w.heap.size w wr) (fun i _ => S.length - (intOf i).toNat)
    case atStart => exact ⟨k0, hk0, rfl, rfl, hB, by (repeat (first | exact bl_refl | assumption | (apply bl_then; assumption) | refine bl_alloc ?_ _ | refine bl_drew ?_ | refine bl_drewN ?_ _))⟩
    case round =>
      clear hB fB
      obtain ⟨k, hkl, rfl, H, hB, hbw⟩ := hrel
      have fB := hB.facts
      by_cases hlt : k < S.length
      · have hr := h.below hbw
        have hbo := HS.out _ (List.getElem_mem hlt)
        have HT := Lib.hid (tryR_drop (f := rls n) (D := D) hlt)
        obtain ⟨b, off, rfl, hb, e0, e1, e2⟩ := hr.bar hlt
        have hmid := sl_mid hr hlt hlc hcm
        obtain ⟨⟨x, y, s⟩, hx⟩ : ∃ z, S[k] = z := ⟨_, rfl⟩
        have HX := Lib.hid hx
        rw [hx] at e0 e1 e2 hbo HT hmid
        simp only at e0 e1 e2
        obtain ⟨hok2, hlen2⟩ := tog_ok hk hbo
        have ih : ∀ u' W, SlB W v N → SlB W u' (tog D [(x, y, s)]) → SlB W (.slice (some ⟨b, off, none⟩) S.length c) S → Calls Tryz.prog 109 #[.agg #[v, u'], .slice (some ⟨b, off, none⟩) S.length c, .int .i64 ((k : Int) + 1), .int .i64 n] W (ROB W (rls n (tog D [(x, y, s)]) (S.drop (k + 1)))) := fun u' W h1 h2 h3 => by
          have := IH (tog D [(x, y, s)]) (k + 1) v u' _ W h1 h2 h3 hok2 (by omega) (by omega)
          rwa [show ((k + 1 : Nat) : Int) = (k : Int) + 1 from rfl] at this
        obtain ⟨o, ho⟩ : ∃ o, rls n (tog D [(x, y, s)]) (S.drop (k + 1)) = o := ⟨_, rfl⟩
        have hol : ∀ z, o = some z → z.length = n := fun z hz => rls_len n _ _ z (ho.trans hz)
        rw [ho] at ih HT
        have HOL := Lib.hid hol
        clear ho hx hok2 hbo hol
        cases o with
        | none =>
          go_wp2
          refine wp_region_ords [0, 1, 2, 3, 4, 5, 7, 8, 9, 10, 11] [(6, false), (12, false), (13, false), (14, true), (15, true), (16, false)] [17] (by kernel_rfl) (by kernel_rfl) (fun d _ _ _ _ h => by cases d <;> exact h) ?_
          simp only [List.map_cons, List.map_nil, List.getD_cons_zero, List.getD_cons_succ]
          repeat (go_big_quiet_step (fail))
          refine wpQuiet_nil ?_
          refine wpMid_run rfl (fun K hK => ?_)
          go_simp
          refine (rcut_any N D [(x, y, s)] _ (hN.below (by (repeat (first | exact bl_refl | assumption | (apply bl_then; assumption) | refine bl_alloc ?_ _ | refine bl_drew ?_ | refine bl_drewN ?_ _)))) (hD.below (by (repeat (first | exact bl_refl | assumption | (apply bl_then; assumption) | refine bl_alloc ?_ _ | refine bl_drew ?_ | refine bl_drewN ?_ _)))) (hmid.below (by (repeat (first | exact bl_refl | assumption | (apply bl_then; assumption) | refine bl_alloc ?_ _ | refine bl_drew ?_ | refine bl_drewN ?_ _)))) (by simp; omega)).mono ?_
          rintro e w4 ⟨u4, rfl, hown4, hb4⟩
          refine hK _ _ (by (repeat (first | exact bl_refl | assumption | (apply bl_then; assumption) | refine bl_alloc ?_ _ | refine bl_drew ?_ | refine bl_drewN ?_ _))) ?_
          clear hK K
          refine wpMid_run rfl (fun K hK => ?_)
          go_simp
          refine (ih _ _ (hN.below (by (repeat (first | exact bl_refl | assumption | (apply bl_then; assumption) | refine bl_alloc ?_ _ | refine bl_drew ?_ | refine bl_drewN ?_ _)))) (hown4.rd bc_len) (hs.below (by (repeat (first | exact bl_refl | assumption | (apply bl_then; assumption) | refine bl_alloc ?_ _ | refine bl_drew ?_ | refine bl_drewN ?_ _))))).mono ?_
          rintro e w5 ⟨v5, rfl, hown5, hb5⟩
          refine hK _ _ (by (repeat (first | exact bl_refl | assumption | (apply bl_then; assumption) | refine bl_alloc ?_ _ | refine bl_drew ?_ | refine bl_drewN ?_ _))) ?_
          clear hK K
          refine wpMid_run rfl (fun K hK => ?_)
          go_simp
          refine hK _ _ (by (repeat (first | exact bl_refl | assumption | (apply bl_then; assumption) | refine bl_alloc ?_ _ | refine bl_drew ?_ | refine bl_drewN ?_ _))) ?_
          clear hK K
          refine wpMid_take rfl ?_
          intro K hK
          go_big_quiet_op
          go_big_quiet_on
          refine wpMid_take rfl ?_
          intro K hK
          go_big_quiet_op
          go_big_quiet_on
          refine wpMid_run rfl (fun K hK => ?_)
          go_simp
          refine hK _ _ (by (repeat (first | exact bl_refl | assumption | (apply bl_then; assumption) | refine bl_alloc ?_ _ | refine bl_drew ?_ | refine bl_drewN ?_ _))) ?_
          clear hK K
          refine wpMid_nil ?_
          go_wp2
          go_roundw
          case rel => exact ⟨k + 1, by omega, by go_num, by unfold Hid; rw [H.out, HT.out], hB.below (show Below wr.heap.size wr w5 by (repeat (first | exact bl_refl | assumption | (apply bl_then; assumption) | refine bl_alloc ?_ _ | refine bl_drew ?_ | refine bl_drewN ?_ _))), by (repeat (first | exact bl_refl | assumption | (apply bl_then; assumption) | refine bl_alloc ?_ _ | refine bl_drew ?_ | refine bl_drewN ?_ _))⟩
          case measure => simp [intOf]; omega
        | some z =>
          have HE : Hid (rls (n + 1) D (S.drop k0) = some ((x, y, s) :: z)) := by unfold Hid; rw [H.out, HT.out]
          have hzl : z.length ≤ 1000 := by have := HOL.out z rfl; omega
          go_wp2
          refine wp_region_ords [0, 1, 2, 3, 4, 5, 7, 8, 9, 10, 11] [(6, false), (12, false), (13, false), (14, true), (15, true), (16, false)] [17] (by kernel_rfl) (by kernel_rfl) (fun d _ _ _ _ h => by cases d <;> exact h) ?_
          simp only [List.map_cons, List.map_nil, List.getD_cons_zero, List.getD_cons_succ]
          repeat (go_big_quiet_step (fail))
          refine wpQuiet_nil ?_
          refine wpMid_run rfl (fun K hK => ?_)
          go_simp
          refine (rcut_any N D [(x, y, s)] _ (hN.below (by (repeat (first | exact bl_refl | assumption | (apply bl_then; assumption) | refine bl_alloc ?_ _ | refine bl_drew ?_ | refine bl_drewN ?_ _)))) (hD.below (by (repeat (first | exact bl_refl | assumption | (apply bl_then; assumption) | refine bl_alloc ?_ _ | refine bl_drew ?_ | refine bl_drewN ?_ _)))) (hmid.below (by (repeat (first | exact bl_refl | assumption | (apply bl_then; assumption) | refine bl_alloc ?_ _ | refine bl_drew ?_ | refine bl_drewN ?_ _)))) (by simp; omega)).mono ?_
          rintro e w4 ⟨u4, rfl, hown4, hb4⟩
          refine hK _ _ (by (repeat (first | exact bl_refl | assumption | (apply bl_then; assumption) | refine bl_alloc ?_ _ | refine bl_drew ?_ | refine bl_drewN ?_ _))) ?_
          clear hK K
          refine wpMid_run rfl (fun K hK => ?_)
          go_simp
          refine (ih _ _ (hN.below (by (repeat (first | exact bl_refl | assumption | (apply bl_then; assumption) | refine bl_alloc ?_ _ | refine bl_drew ?_ | refine bl_drewN ?_ _)))) (hown4.rd bc_len) (hs.below (by (repeat (first | exact bl_refl | assumption | (apply bl_then; assumption) | refine bl_alloc ?_ _ | refine bl_drew ?_ | refine bl_drewN ?_ _))))).mono ?_
          rintro e w5 ⟨v5, rfl, hown5, hb5⟩
          refine hK _ _ (by (repeat (first | exact bl_refl | assumption | (apply bl_then; assumption) | refine bl_alloc ?_ _ | refine bl_drew ?_ | refine bl_drewN ?_ _))) ?_
          clear hK K
          have hr5 := hr.below (show Below wr.heap.size wr w5 by (repeat (first | exact bl_refl | assumption | (apply bl_then; assumption) | refine bl_alloc ?_ _ | refine bl_drew ?_ | refine bl_drewN ?_ _)))
          obtain ⟨_, f0, f1, f2⟩ := hr5.barAt hlt
          rw [HX.out] at f0 f1 f2
          simp only at f0 f1 f2
          obtain ⟨A5, c5, rfl⟩ := hown5.shape
          refine wpMid_run rfl (fun K hK => ?_)
          go_simp
          refine hK _ _ (by (repeat (first | exact bl_refl | assumption | (apply bl_then; assumption) | refine bl_alloc ?_ _ | refine bl_drew ?_ | refine bl_drewN ?_ _))) ?_
          clear hK K
          refine wpMid_take rfl ?_
          intro K hK
          go_big_quiet_op
          go_big_quiet_on
          refine wpMid_take rfl ?_
          intro K hK
          go_big_quiet_op
          go_big_quiet_on
          refine wpMid_run rfl (fun K hK => ?_)
          go_simp
          refine hK _ _ (by (repeat (first | exact bl_refl | assumption | (apply bl_then; assumption) | refine bl_alloc ?_ _ | refine bl_drew ?_ | refine bl_drewN ?_ _))) ?_
          clear hK K
          refine wpMid_nil ?_
          have hbw5 : Below w.heap.size w w5 := by (repeat (first | exact bl_refl | assumption | (apply bl_then; assumption) | refine bl_alloc ?_ _ | refine bl_drew ?_ | refine bl_drewN ?_ _))
          have hone := own_one w5 (base := w.heap.size) hbw5.size x y s
          have hz6 := (hown5.rd bc_len).alloc (.cells #[.int .i64 x, .int .i64 y, .int .i64 s] 70)
          go_wp2_with (at_builtin; refine wpList_appBS hone hz6 rfl _ _ rfl rfl rfl (by simp; omega) (by simp; exact Nat.le_succ_of_le hbw5.size) ?_; intro v7 w7 hown7 hg7)
          have hbw7 := own_step hone hg7 (bl_alloc hbw5 _)
          go_ret2
          exact ⟨_, by rw [HE.out]; rfl, by rw [HE.out]; exact hown7, hbw7⟩
      · have HE : Hid (rls (n + 1) D (S.drop k0) = none) := by unfold Hid; rw [H.out, List.drop_eq_nil_of_le (by omega)]; rfl
        go_wp2
        go_ret2
        exact ⟨.slice none 0 0, by rw [HE.out]; rfl, by rw [HE.out]; exact Own.nil_, by (repeat (first | exact bl_refl | assumption | (apply bl_then; assumption) | refine bl_alloc ?_ _ | refine bl_drew ?_ | refine bl_drewN ?_ _))⟩
end Go.Proofs.YthcnngoaijgnoaaGreat

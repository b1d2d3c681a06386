/- Union, Minus and Meet of the program, walked. Conditions: the slices read as lists. -/
import Derived.Test.YtpompeancmonbaaGreatE08
import Derived.Test.YtpompeancmonbaaGreatE17
import Derived.Test.YtpompeancmonbaaGreatE23
import Derived.Test.YtpompeancmonbaaGreatE22
import Derived.Test.YtpompeancmonbaaGreatE24
import Derived.Test.YtpompeancmonbaaGreatE26
import Derived.Test.YtpompeancmonbaaGreatE14
import Derived.Test.YtpompeancmonbaaGreatE32
import Derived.Test.YtpompeancmonbaaGreatE29
import Derived.Test.YtpompeancmonbaaGreatE28
import Derived.Test.YtpompeancmonbaaGreatE31
namespace Go.Proofs.YtpompeancmonbaaGreat
open Go.RowKit Go.ChangeMaps
set_option maxHeartbeats 4000000
set_option maxRecDepth 100000

theorem minusK_any (o t : Bool) (w : World) : Calls Tryz.prog 59 #[.bool o, .bool t] w (RV w (.bool (o && !t))) := by
  cases o <;> cases t
  all_goals
    go_enter Tryz.func59, Tryz.ntmps59
    go_wp2
    go_ret
    exact ⟨rfl, by (repeat (first | exact bl_refl | assumption | (apply bl_then; assumption) | refine bl_alloc ?_ _ | refine bl_drew ?_ | refine bl_drewN ?_ _))⟩
theorem unionK_any (o t : Bool) (w : World) : Calls Tryz.prog 68 #[.bool o, .bool t] w (RV w (.bool (o || t))) := by
  cases o <;> cases t
  all_goals
    go_enter Tryz.func68, Tryz.ntmps68
    go_wp2
    go_ret
    exact ⟨rfl, by (repeat (first | exact bl_refl | assumption | (apply bl_then; assumption) | refine bl_alloc ?_ _ | refine bl_drew ?_ | refine bl_drewN ?_ _))⟩
theorem meetK_any (o t : Bool) (w : World) : Calls Tryz.prog 67 #[.bool o, .bool t] w (RV w (.bool (o && t))) := by
  cases o <;> cases t
  all_goals
    go_enter Tryz.func67, Tryz.ntmps67
    go_wp2
    go_ret
    exact ⟨rfl, by (repeat (first | exact bl_refl | assumption | (apply bl_then; assumption) | refine bl_alloc ?_ _ | refine bl_drew ?_ | refine bl_drewN ?_ _))⟩
def twoEN (a b : List Bar) : Int := firstI [netE a, netE b]
def putE (K : Bool → Bool → Bool) (a b : List Bar) : Int := if twoEN a b ≠ 0 then twoEN a b else if 4096 < (mergeL K a b).length then 5 else 0
def putL (K : Bool → Bool → Bool) (a b : List Bar) : List Bar := if putE K a b = 0 then mergeL K a b else []
theorem put_any {va vb : Value} (K : Bool → Bool → Bool) (g : Nat) (hg3 : g = 59 ∨ g = 68 ∨ g = 67) (hg : ∀ o t W, Calls Tryz.prog g #[.bool o, .bool t] W (RV W (.bool (K o t)))) (a b : List Bar) (w : World) (ha : SlB w va a) (hb : SlB w vb b) :
    Calls Tryz.prog 58 #[va, vb, .func (.func g) #[] #[]] w (RBE w (putL K a b) (putE K a b)) := by
  have hF : ∀ A c W, Rd ic 1 W A [netE a, netE b] → Calls Tryz.prog 34 #[.slice A 2 c] W (RV W (.int .i64 (twoEN a b))) := fun A c W hr => nfirst_any [netE a, netE b] A c W (by simp [maxLen]) hr
  by_cases hE : twoEN a b = 0
  · obtain ⟨h1, h2⟩ := firstI_zero hE
    have hok1 := netE_ok h1
    have hok2 := netE_ok h2
    rw [hE] at hF
    have HE := Lib.hid hE
    clear hE
    by_cases hL : 4096 < (mergeL K a b).length
    · have HP : Hid (putL K a b = [] ∧ putE K a b = 5) := by
        have hp : putE K a b = 5 := by unfold putE; rw [if_neg (by rw [HE.out]; simp), if_pos hL]
        unfold Hid putL
        rw [hp]
        exact ⟨rfl, rfl⟩
      have hL' : (4096 < ((mergeL K a b).length : Int)) = True := eq_true (by omega)
      clear hL
      go_enter Tryz.func58, Tryz.ntmps58
      go_wp2_with fail
      refine (nnet_sl a _ ha).mono ?_
      rintro e w1 ⟨rfl, hb1⟩
      go_wp2_with fail
      refine (nnet_sl b _ (hb.below hb1)).mono ?_
      rintro e w2 ⟨rfl, hb2⟩
      go_wp2_with fail
      go_must (refine (hF _ _ _ (Rd.ints2 (by simp) (by go_simp) (by go_simp))).mono ?_)
      rintro e w3 ⟨rfl, hb3⟩
      have hb03 : Below w.heap.size w w3 := by (repeat (first | exact bl_refl | assumption | (apply bl_then; assumption) | refine bl_alloc ?_ _ | refine bl_drew ?_ | refine bl_drewN ?_ _))
      go_wp2_with fail
      refine (merged_any K g hg3 hg a b _ (ha.below hb03) (hb.below hb03) hok1.len1 hok2.len1).mono ?_
      rintro e w4 ⟨v4, rfl, hO4, hb4⟩
      obtain ⟨A4, c4, rfl⟩ := hO4.shape
      go_wp2
      go_ret2
      exact ⟨_, by rw [HP.out.2]; rfl, by rw [HP.out.1]; exact Own.nil_, by (repeat (first | exact bl_refl | assumption | (apply bl_then; assumption) | refine bl_alloc ?_ _ | refine bl_drew ?_ | refine bl_drewN ?_ _))⟩
    · have HP : Hid (putL K a b = mergeL K a b ∧ putE K a b = 0) := by
        have : putE K a b = 0 := by unfold putE; rw [if_neg (by rw [HE.out]; simp), if_neg hL]
        unfold Hid putL
        rw [if_pos this]
        exact ⟨rfl, this⟩
      have hL' : (4096 < ((mergeL K a b).length : Int)) = False := eq_false (by omega)
      clear hL
      go_enter Tryz.func58, Tryz.ntmps58
      go_wp2_with fail
      refine (nnet_sl a _ ha).mono ?_
      rintro e w1 ⟨rfl, hb1⟩
      go_wp2_with fail
      refine (nnet_sl b _ (hb.below hb1)).mono ?_
      rintro e w2 ⟨rfl, hb2⟩
      go_wp2_with fail
      go_must (refine (hF _ _ _ (Rd.ints2 (by simp) (by go_simp) (by go_simp))).mono ?_)
      rintro e w3 ⟨rfl, hb3⟩
      have hb03 : Below w.heap.size w w3 := by (repeat (first | exact bl_refl | assumption | (apply bl_then; assumption) | refine bl_alloc ?_ _ | refine bl_drew ?_ | refine bl_drewN ?_ _))
      go_wp2_with fail
      refine (merged_any K g hg3 hg a b _ (ha.below hb03) (hb.below hb03) hok1.len1 hok2.len1).mono ?_
      rintro e w4 ⟨v4, rfl, hO4, hb4⟩
      obtain ⟨A4, c4, rfl⟩ := hO4.shape
      go_wp2
      go_ret2
      exact ⟨_, by rw [HP.out.2]; rfl, by rw [HP.out.1]; exact hO4.base_mono hb03.size, by (repeat (first | exact bl_refl | assumption | (apply bl_then; assumption) | refine bl_alloc ?_ _ | refine bl_drew ?_ | refine bl_drewN ?_ _))⟩
  · have hE' : (twoEN a b != 0) = true := by simpa using hE
    have HP : Hid (putL K a b = [] ∧ putE K a b = twoEN a b) := by
      have : putE K a b = twoEN a b := by unfold putE; rw [if_pos hE]
      unfold Hid putL
      rw [this, if_neg hE]
      exact ⟨rfl, rfl⟩
    clear hE
    go_enter Tryz.func58, Tryz.ntmps58
    go_wp2_with fail
    refine (nnet_sl a _ ha).mono ?_
    rintro e w1 ⟨rfl, hb1⟩
    go_wp2_with fail
    refine (nnet_sl b _ (hb.below hb1)).mono ?_
    rintro e w2 ⟨rfl, hb2⟩
    go_wp2_with fail
    go_must (refine (hF _ _ _ (Rd.ints2 (by simp) (by go_simp) (by go_simp))).mono ?_)
    rintro e w3 ⟨rfl, hb3⟩
    go_wp2
    go_ret2
    exact ⟨_, by rw [HP.out.2]; rfl, by rw [HP.out.1]; exact Own.nil_, by (repeat (first | exact bl_refl | assumption | (apply bl_then; assumption) | refine bl_alloc ?_ _ | refine bl_drew ?_ | refine bl_drewN ?_ _))⟩
def minusK (o t : Bool) : Bool := o && !t
def unionK (o t : Bool) : Bool := o || t
def meetK (o t : Bool) : Bool := o && t
theorem apiMinus_any {va vb : Value} (a b : List Bar) (w : World) (ha : SlB w va a) (hb : SlB w vb b) : Calls Tryz.prog 17 #[va, vb] w (RBE w (putL minusK a b) (putE minusK a b)) := by
  go_enter Tryz.func17, Tryz.ntmps17
  go_wp2_with fail
  refine (put_any minusK _ (by decide) minusK_any a b _ ha hb).mono ?_
  rintro e w1 ⟨v1, rfl, hO1, hb1⟩
  go_wp2
  go_ret2
  exact ⟨_, rfl, hO1, hb1⟩
theorem apiUnion_any {va vb : Value} (a b : List Bar) (w : World) (ha : SlB w va a) (hb : SlB w vb b) : Calls Tryz.prog 26 #[va, vb] w (RBE w (putL unionK a b) (putE unionK a b)) := by
  go_enter Tryz.func26, Tryz.ntmps26
  go_wp2_with fail
  refine (put_any unionK _ (by decide) unionK_any a b _ ha hb).mono ?_
  rintro e w1 ⟨v1, rfl, hO1, hb1⟩
  go_wp2
  go_ret2
  exact ⟨_, rfl, hO1, hb1⟩
theorem apiMeet_any {va vb : Value} (a b : List Bar) (w : World) (ha : SlB w va a) (hb : SlB w vb b) : Calls Tryz.prog 25 #[va, vb] w (RBE w (putL meetK a b) (putE meetK a b)) := by
  go_enter Tryz.func25, Tryz.ntmps25
  go_wp2_with fail
  refine (put_any meetK _ (by decide) meetK_any a b _ ha hb).mono ?_
  rintro e w1 ⟨v1, rfl, hO1, hb1⟩
  go_wp2
  go_ret2
  exact ⟨_, rfl, hO1, hb1⟩
end Go.Proofs.YtpompeancmonbaaGreat

/- Nets whose knots are moved, of the program, walked. Conditions: bars within bounds. -/
namespace Go.Proofs.YtpompeancmonbaaGreat
open Go.RowKit Go.ChangeMaps
set_option maxHeartbeats 4000000
set_option maxRecDepth 100000

theorem mirrored_any (x y : Int) (hx : -1000000 ≤ x ∧ x ≤ 1000000) (w : World) : Calls Tryz.prog 39 #[.agg #[.int .i64 x, .int .i64 y]] w (RV w (.agg #[.int .i64 (-x), .int .i64 y])) := by
  have m1 : IntKind.i64.wrap (-x) = -x := by rw [IntWalk.i64_in _ (by omega)]
  go_enter Tryz.func39, Tryz.ntmps39
  go_wp2
  refine bodyPost_ret (v := .agg #[.int .i64 (-x), .int .i64 y]) (by simp [results, Tryz.results39, go_sem]) rfl ?_
  exact ⟨rfl, by (repeat (first | exact bl_refl | assumption | (apply bl_then; assumption) | refine bl_alloc ?_ _ | refine bl_drew ?_ | refine bl_drewN ?_ _))⟩
theorem turned_any (x y : Int) (hy : -1000000 ≤ y ∧ y ≤ 1000000) (w : World) : Calls Tryz.prog 41 #[.agg #[.int .i64 x, .int .i64 y]] w (RV w (.agg #[.int .i64 (-y), .int .i64 x])) := by
  have m1 : IntKind.i64.wrap (-y) = -y := by rw [IntWalk.i64_in _ (by omega)]
  go_enter Tryz.func41, Tryz.ntmps41
  go_wp2
  refine bodyPost_ret (v := .agg #[.int .i64 (-y), .int .i64 x]) (by simp [results, Tryz.results41, go_sem]) rfl ?_
  exact ⟨rfl, by (repeat (first | exact bl_refl | assumption | (apply bl_then; assumption) | refine bl_alloc ?_ _ | refine bl_drew ?_ | refine bl_drewN ?_ _))⟩
/-- the bar whose ends are moved -/
def mvB (mv : Knot → Knot) (b : Bar) : Bar := btwB (mv (lowK b)) (mv (uppK b))
def mvF (k1 k2 : Knot) (n₀ : Nat) (i : Nat) (v : Value) (W : World) : Prop :=
  (i = 3 → v = .agg #[.int .i64 k1.1, .int .i64 k1.2]) ∧ (i = 7 → v = .agg #[.int .i64 k2.1, .int .i64 k2.2]) ∧
  ((i = 8 ∨ i = 9) → ∃ g, v = .pointer (some ⟨g, 0, none⟩) ∧ n₀ ≤ g ∧ Blk W g 87 #[.int .i64 0, .int .i64 0])
theorem mvF_st (k1 k2 : Knot) (n₀ : Nat) : ∀ i v W W', mvF k1 k2 n₀ i v W → Below W.heap.size W W' → mvF k1 k2 n₀ i v W' := fun i v W W' h hb =>
  ⟨h.1, h.2.1, fun hi => by obtain ⟨g, h1, h0, h2⟩ := h.2.2 hi; exact ⟨g, h1, h0, h2.below hb⟩⟩
theorem moved_any {v : Value} (mv : Knot → Knot) (g : Nat) (hg3 : g = 39 ∨ g = 41)
    (hg : ∀ k W, nearKN k → Calls Tryz.prog g #[.agg #[.int .i64 k.1, .int .i64 k.2]] W (RV W (.agg #[.int .i64 (mv k).1, .int .i64 (mv k).2]))) (hnear : ∀ k, nearKN k → nearKN (mv k))
    (l : List Bar) (w : World) (h : SlB w v l) (hk : ∀ b ∈ l, BarOk b) (hlen : l.length ≤ 10000) :
    Calls Tryz.prog 38 #[v, .func (.func g) #[] #[]] w (RB w (srtB (l.map (mvB mv)))) := by
  obtain ⟨A, c, rfl, hlc, hcm, h⟩ := h
  have HK := Lib.hid hk
  clear hk
  rcases hg3 with rfl | rfl
  all_goals
    go_enter Tryz.func38, Tryz.ntmps38
    go_wp2
    go_loopw [5, 13] (fun o i wr => ∃ k : Nat, k ≤ l.length ∧ i = .int .i64 k ∧ OwB w.heap.size wr o ((l.take k).map (mvB mv)) ∧ Below w.heap.size w wr) (fun _ i _ => l.length - (intOf i).toNat)
    case atStart => exact ⟨0, Nat.zero_le _, rfl, Own.nil_, by (repeat (first | exact bl_refl | assumption | (apply bl_then; assumption) | refine bl_alloc ?_ _ | refine bl_drew ?_ | refine bl_drewN ?_ _))⟩
    case round =>
      obtain ⟨k, hk, rfl, hO, hbw⟩ := hrel
      obtain ⟨wo, rfl⟩ : ∃ x, x = wr := ⟨_, rfl⟩
      by_cases hlt : k < l.length
      · have hr := h.below hbw
        obtain ⟨b, off, rfl, hb, e0, e1, e2⟩ := hr.bar hlt
        have hbo := HK.out _ (List.getElem_mem hlt)
        have HD := Lib.hid (map_take (mvB mv) hlt)
        obtain ⟨⟨x, y, s⟩, hx⟩ : ∃ z, l[k] = z := ⟨_, rfl⟩
        rw [hx] at e0 e1 e2 hbo HD
        simp only at e0 e1 e2
        clear hx
        obtain ⟨q1, q2, q3⟩ := hbo
        simp only at q1 q2 q3
        have hll : ((l.take k).map (mvB mv)).length ≤ 10000 := by simp; omega
        have n1 : nearKN (x, y) := by unfold nearKN; simp only; omega
        have n2 : nearKN (x + s, y + 1) := by unfold nearKN; simp only; omega
        have m1 := hnear _ n1
        have m2 := hnear _ n2
        have g1 := fun W => hg _ W n1
        have g2 := fun W => hg _ W n2
        simp only at g1 g2
        obtain ⟨⟨ax, ay⟩, hk1⟩ : ∃ z, mv (x, y) = z := ⟨_, rfl⟩
        obtain ⟨⟨bx, bY⟩, hk2⟩ : ∃ z, mv (x + s, y + 1) = z := ⟨_, rfl⟩
        rw [hk1] at g1 m1
        rw [hk2] at g2 m2
        simp only at g1 g2
        have HT : Hid (mvB mv (x, y, s) = btwB (ax, ay) (bx, bY)) := by unfold Hid mvB lowK uppK; simp only; rw [hk1, hk2]
        unfold nearKN at m1 m2
        simp only at m1 m2
        clear hk1 hk2 n1 n2
        have hOa := hO.alloc (.cells #[.int .i64 x, .int .i64 y, .int .i64 s] 46)
        go_wp2_with fail
        refine (nends_any _ _ _ (by omega) (by omega) (by omega) _).mono ?_
        rintro e w1 ⟨rfl, hb1⟩
        have hO1 := hOa.below hb1
        have hbw1 : Below w.heap.size w w1 := by (repeat (first | exact bl_refl | assumption | (apply bl_then; assumption) | refine bl_alloc ?_ _ | refine bl_drew ?_ | refine bl_drewN ?_ _))
        have hE1 := Blk.new w1 115 #[.int .i64 x, .int .i64 y, .int .i64 (x + s), .int .i64 (y + 1)]
        have hO2 := hO1.alloc (.cells #[.int .i64 x, .int .i64 y, .int .i64 (x + s), .int .i64 (y + 1)] 115)
        have hbw2 : Below w.heap.size w (w1.alloc (.cells #[.int .i64 x, .int .i64 y, .int .i64 (x + s), .int .i64 (y + 1)] 115)) := by (repeat (first | exact bl_refl | assumption | (apply bl_then; assumption) | refine bl_alloc ?_ _ | refine bl_drew ?_ | refine bl_drewN ?_ _))
        obtain ⟨w2, hw2⟩ : ∃ X, w1.alloc (.cells #[.int .i64 x, .int .i64 y, .int .i64 (x + s), .int .i64 (y + 1)] 115) = X := ⟨_, rfl⟩
        rw [hw2] at hE1 hO2 hbw2
        have fE := hE1.facts
        clear hOa hO1 hO e0 e1 e2 hr
        go_upto_region 6 with fail
        clear hw2
        refine wp_region_facts (mvF (ax, ay) (bx, bY) w2.heap.size) [0, 1, 2, 4, 5, 6] [8, 9] [3, 7, 8, 9] [10, 11] (by decide) (by kernel_rfl) (by kernel_rfl) (fun d _ _ _ _ h => by cases d <;> exact h) (mvF_st (ax, ay) (bx, bY) w2.heap.size) ?_
        simp only [List.map_cons, List.map_nil, List.getD_cons_zero, List.getD_cons_succ]
        repeat (go_big_quiet_step (fail))
        refine wpQuiet_nil ⟨List.forall_mem_cons.2 ⟨?_, List.forall_mem_cons.2 ⟨?_, List.forall_mem_cons.2 ⟨?_, List.forall_mem_cons.2 ⟨?_, List.forall_mem_nil _⟩⟩⟩⟩, ?_⟩
        · intro vals W hbW hF
          refine facts_step (fun K hK => ?_)
          simp only [putAll, Array.getD_eq_getD_getElem?, List.getElem?_toArray, List.getElem?_cons_succ, List.getElem?_cons_zero, Option.getD_some, List.getD_cons_succ, List.getD_cons_zero, Act.put, List.setIfInBounds_toArray, List.set_cons_zero, List.set_cons_succ]
          go_simp
          refine (g1 _).mono ?_
          rintro e w1 ⟨rfl, hb1⟩
          exact hK _ _ _ rfl hb1 ⟨fun _ => rfl, fun h => by simp at h, fun h => by simp at h⟩ (fun h => by simp at h)
        · intro vals W hbW hF
          refine facts_step (fun K hK => ?_)
          simp only [putAll, Array.getD_eq_getD_getElem?, List.getElem?_toArray, List.getElem?_cons_succ, List.getElem?_cons_zero, Option.getD_some, List.getD_cons_succ, List.getD_cons_zero, Act.put, List.setIfInBounds_toArray, List.set_cons_zero, List.set_cons_succ]
          go_simp
          refine (g2 _).mono ?_
          rintro e w1 ⟨rfl, hb1⟩
          exact hK _ _ _ rfl hb1 ⟨fun h => by simp at h, fun _ => rfl, fun h => by simp at h⟩ (fun h => by simp at h)
        · intro vals W hbW hF
          refine facts_step (fun K hK => ?_)
          simp only [putAll, Array.getD_eq_getD_getElem?, List.getElem?_toArray, List.getElem?_cons_succ, List.getElem?_cons_zero, Option.getD_some, List.getD_cons_succ, List.getD_cons_zero, Act.put, List.setIfInBounds_toArray, List.set_cons_zero, List.set_cons_succ]
          go_simp
          exact hK _ _ _ rfl (bl_alloc bl_refl _) ⟨fun h => by simp at h, fun h => by simp at h, fun _ => ⟨_, rfl, hbW.size, Blk.new _ _ _⟩⟩ (fun _ => ⟨_, rfl, Nat.le_refl _, by simp⟩)
        · intro vals W hbW hF
          refine facts_step (fun K hK => ?_)
          simp only [putAll, Array.getD_eq_getD_getElem?, List.getElem?_toArray, List.getElem?_cons_succ, List.getElem?_cons_zero, Option.getD_some, List.getD_cons_succ, List.getD_cons_zero, Act.put, List.setIfInBounds_toArray, List.set_cons_zero, List.set_cons_succ]
          go_simp
          exact hK _ _ _ rfl (bl_alloc bl_refl _) ⟨fun h => by simp at h, fun h => by simp at h, fun _ => ⟨_, rfl, hbW.size, Blk.new _ _ _⟩⟩ (fun _ => ⟨_, rfl, Nat.le_refl _, by simp⟩)
        · intro vals W hbW hF hAp
          simp only [putAll, Array.getD_eq_getD_getElem?, List.getElem?_toArray, List.getElem?_cons_succ, List.getElem?_cons_zero, Option.getD_some, Act.put, List.setIfInBounds_toArray, List.set_cons_zero, List.set_cons_succ]
          have h1 := (hF 3 (by simp)).1 rfl
          have h3 := (hF 7 (by simp)).2.1 rfl
          obtain ⟨g4, e4, hg4, hB4⟩ := (hF 8 (by simp)).2.2 (.inl rfl)
          obtain ⟨g5, e5, hg5, hB5⟩ := (hF 9 (by simp)).2.2 (.inr rfl)
          have hne := hAp.2 8 (by simp) 9 (by simp) (by simp)
          simp only [h1, h3, e4, e5] at hne ⊢
          have hne' : ¬ g4 = g5 ∧ ¬ g5 = g4 := ⟨fun e => hne (by rw [e]), fun e => hne (by rw [e])⟩
          clear hF hAp h1 h3 e4 e5 hne fE
          refine wpList_store_blk hB4 rfl _ _ _ rfl rfl rfl (by rfl) (by kernel_rfl) (by kernel_rfl) fun w3 hB4 hc3 => ?_
          refine wpList_store_blk (hB5.chg hc3 (by simp [hne'])) rfl _ _ _ rfl rfl rfl (by rfl) (by kernel_rfl) (by kernel_rfl) fun w4 hB5 hc4 => ?_
          replace hB4 := hB4.chg hc4 (by simp [hne'])
          have f4 := hB4.facts
          have f5 := hB5.facts
          have hc := ((Chg.of_below hbW).trans (hc3.mono (S' := [g4, g5]) (by simp))).trans (hc4.mono (S' := [g4, g5]) (by simp))
          have hb4 : Below w2.heap.size w2 w4 := hc.below (by simp; omega) (Nat.le_refl _)
          have hO4 := hO2.below hb4
          have hO2b := hO2
          have hbw4 : Below w.heap.size w w4 := bl_then hb4 hbw2
          clear hc hc3 hc4 hO2
          have d1 : IntKind.i64.wrap (bx - ax) = bx - ax := IntWalk.i64_in _ (by omega)
          have d2 : IntKind.i64.wrap (ax - bx) = ax - bx := IntWalk.i64_in _ (by omega)
          by_cases hsw : bY < ay
          · have HTT : Hid (mvB mv (x, y, s) = (bx, bY, ax - bx)) := by unfold Hid; rw [HT.out]; unfold btwB; rw [if_pos hsw]
            have t1 : (bY < ay) = True := eq_true hsw
            clear hsw
            have hs4 := hb4.size
            go_wp2_with (first
              | (refine wpList_store_blk hB4 rfl _ _ _ rfl rfl rfl (by rfl) (by kernel_rfl) (by kernel_rfl) ?_; intro w7 hB7 hc7; have hB5' := hB5.chg hc7 (by simp [hne']))
              | (refine wpList_store_blk hB5' rfl _ _ _ rfl rfl rfl (by rfl) (by kernel_rfl) (by kernel_rfl) ?_; intro w8 hB8 hc8; have hB7' := hB7.chg hc8 (by simp [hne']); have f7 := hB7'.facts; have f8 := hB8.facts; have hb8 : Below w2.heap.size w2 w8 := hb4.trans (((hc7.mono (S' := [g4, g5]) (by simp)).trans (hc8.mono (S' := [g4, g5]) (by simp))).below (by simp; omega) hs4); have hO5 := hO2b.below hb8; have hbw5 := bl_then hb8 hbw2)
              | (at_builtin; refine wpList_appB1 hO5 rfl _ _ rfl rfl rfl (by simp) (by omega) hbw5.size ?_; intro v6 w6 hown6 hgr6))
            have hb6 := own_step hO5 hgr6 (by (repeat (first | exact bl_refl | assumption | (apply bl_then; assumption) | refine bl_alloc ?_ _ | refine bl_drew ?_ | refine bl_drewN ?_ _)))
            clear hgr6
            go_wp2
            go_roundw
            case rel => exact ⟨k + 1, by omega, by go_num, by rw [HD.out, HTT.out]; exact hown6, hb6⟩
            case measure => simp [intOf]; omega
          · have HTT : Hid (mvB mv (x, y, s) = (ax, ay, bx - ax)) := by unfold Hid; rw [HT.out]; unfold btwB; rw [if_neg hsw]
            have t1 : (bY < ay) = False := eq_false hsw
            clear hsw
            have hO5 := hO4
            have hbw5 := hbw4
            clear hO4 hbw4
            go_wp2_with (at_builtin; refine wpList_appB1 hO5 rfl _ _ rfl rfl rfl (by simp) (by omega) hbw5.size ?_; intro v6 w6 hown6 hgr6)
            have hb6 := own_step hO5 hgr6 (by (repeat (first | exact bl_refl | assumption | (apply bl_then; assumption) | refine bl_alloc ?_ _ | refine bl_drew ?_ | refine bl_drewN ?_ _)))
            clear hgr6
            go_wp2
            go_roundw
            case rel => exact ⟨k + 1, by omega, by go_num, by rw [HD.out, HTT.out]; exact hown6, hb6⟩
            case measure => simp [intOf]; omega
      · have HE : Hid (l.map (mvB mv) = (l.take k).map (mvB mv)) := by unfold Hid; rw [List.take_of_length_le (by omega)]
        have hO3 : OwB w.heap.size wo _ (l.map (mvB mv)) := HE.out ▸ hO
        go_wp2_with fail
        refine (sortB_anyN _ _ hO3 (by simp; omega)).mono ?_
        rintro e w4 ⟨rfl, hO4, hg4⟩
        have hb4 := own_step hO3 hg4 hbw
        go_wp2
        go_ret
        exact ⟨_, rfl, hO4, hb4⟩
end Go.Proofs.YtpompeancmonbaaGreat

/- The parts of a net, plain, and rows of rows. Conditions: none. -/
namespace Go.Proofs.YtpompeancmonbaaGreat
open Go.RowKit Go.ChangeMaps
set_option maxHeartbeats 4000000
set_option maxRecDepth 100000

/-- a bar tried: it joins the part if it is a bar of the net that was not seen -/
def tryP (l S P : List Bar) (b : Bar) : List Bar := if (b ∈ S ∨ b ∈ P) ∨ b ∉ l then P else P ++ [b]
def arP (l S : List Bar) (k : Knot) (P : List Bar) : Nat → List Bar
  | 0 => P
  | j + 1 => tryP l S (arP l S k P j) (arB k j)
def enP (l S : List Bar) (b : Bar) (P : List Bar) : Nat → List Bar
  | 0 => P
  | n + 1 => arP l S (endK b n) (enP l S b P n) 4
def colP (l S : List Bar) : Nat → Nat → List Bar → List Bar
  | 0, _, P => P
  | f + 1, i, P => if h : i < P.length then colP l S f (i + 1) (enP l S P[i] P 2) else P
/-- the parts that the first k bars of a net begin -/
def prtO (l : List Bar) : Nat → List (List Bar)
  | 0 => []
  | k + 1 => match l[k]? with
    | none => prtO l k
    | some b => if b ∈ (prtO l k).flatten then prtO l k else prtO l k ++ [srtB (colP l (prtO l k).flatten (l.length + 1) 0 [b])]
def partsL (l : List Bar) : List (List Bar) := prtO l l.length
structure PartOk (l S P : List Bar) : Prop where
  nodup : P.Nodup
  sub : ∀ b ∈ P, b ∈ l
  apart : ∀ b ∈ P, b ∉ S
theorem PartOk.try_ {l S P : List Bar} (h : PartOk l S P) (b : Bar) : PartOk l S (tryP l S P b) := by
  unfold tryP
  split
  · exact h
  · rename_i hn
    simp only [not_or, Decidable.not_not] at hn
    obtain ⟨⟨h1, h2⟩, h3⟩ := hn
    refine ⟨?_, fun c hc => ?_, fun c hc => ?_⟩
    · rw [List.nodup_append]
      exact ⟨h.nodup, by simp, fun a ha c hc e => by
        obtain rfl : c = b := by simpa using hc
        exact h2 (e ▸ ha)⟩
    · rcases List.mem_append.1 hc with hc | hc
      · exact h.sub c hc
      · obtain rfl : c = b := by simpa using hc
        exact h3
    · rcases List.mem_append.1 hc with hc | hc
      · exact h.apart c hc
      · obtain rfl : c = b := by simpa using hc
        exact h1
theorem tryP_len (l S P : List Bar) (b : Bar) : P.length ≤ (tryP l S P b).length := by
  unfold tryP; split <;> simp
theorem PartOk.ar {l S P : List Bar} (h : PartOk l S P) (k : Knot) : ∀ j, PartOk l S (arP l S k P j)
  | 0 => h
  | j + 1 => (PartOk.ar h k j).try_ _
theorem arP_len (l S : List Bar) (k : Knot) (P : List Bar) : ∀ j, P.length ≤ (arP l S k P j).length
  | 0 => Nat.le_refl _
  | j + 1 => Nat.le_trans (arP_len l S k P j) (tryP_len _ _ _ _)
theorem PartOk.en {l S P : List Bar} (h : PartOk l S P) (b : Bar) : ∀ n, PartOk l S (enP l S b P n)
  | 0 => h
  | n + 1 => (PartOk.en h b n).ar _ 4
theorem enP_len (l S : List Bar) (b : Bar) (P : List Bar) : ∀ n, P.length ≤ (enP l S b P n).length
  | 0 => Nat.le_refl _
  | n + 1 => Nat.le_trans (enP_len l S b P n) (arP_len _ _ _ _ 4)
theorem len_sub {α : Type} [DecidableEq α] : ∀ {l D : List α}, l.Nodup → (∀ x ∈ l, x ∈ D) → l.length ≤ D.length
  | [], _, _, _ => by simp
  | a :: l, D, hn, hs => by
    rw [List.nodup_cons] at hn
    have ha := hs a (by simp)
    have := len_sub (D := D.erase a) hn.2 fun x hx => (List.mem_erase_of_ne (fun e : x = a => hn.1 (e ▸ hx))).2 (hs x (by simp [hx]))
    rw [List.length_erase_of_mem ha] at this
    have h0 := List.length_pos_of_mem ha
    simp only [List.length_cons]
    omega
theorem PartOk.len {l S P : List Bar} (h : PartOk l S P) : P.length ≤ l.length := len_sub h.nodup h.sub
theorem PartOk.col {l S : List Bar} : ∀ (f i : Nat) {P : List Bar}, PartOk l S P → PartOk l S (colP l S f i P)
  | 0, _, _, h => h
  | f + 1, i, P, h => by
    unfold colP
    split
    · exact PartOk.col f (i + 1) (h.en _ 2)
    · exact h
theorem colP_go {l S P : List Bar} {f i : Nat} (h : i < P.length) : colP l S (f + 1) i P = colP l S f (i + 1) (enP l S P[i] P 2) := by
  rw [colP, dif_pos h]
theorem colP_end {l S P : List Bar} {f i : Nat} (h : ¬ i < P.length) : colP l S f i P = P := by
  cases f with
  | zero => rfl
  | succ f => rw [colP, dif_neg h]
theorem prtO_succ {l : List Bar} {k : Nat} (hk : k < l.length) : prtO l (k + 1) = if l[k] ∈ (prtO l k).flatten then prtO l k else prtO l k ++ [srtB (colP l (prtO l k).flatten (l.length + 1) 0 [l[k]])] := by
  rw [prtO, List.getElem?_eq_getElem hk]
theorem PartOk.start {l S : List Bar} {b : Bar} (hb : b ∈ l) (hS : b ∉ S) : PartOk l S [b] :=
  ⟨by simp, fun c hc => by obtain rfl : c = b := by simpa using hc
                           exact hb, fun c hc => by obtain rfl : c = b := by simpa using hc
                                                    exact hS⟩
theorem prtO_len (l : List Bar) : ∀ k, (prtO l k).length ≤ k
  | 0 => Nat.le_refl _
  | k + 1 => by
    have := prtO_len l k
    rw [prtO]
    split
    · omega
    · split
      · omega
      · simp; omega
/-- what the map of the bars seen holds -/
def seenO (S : List Bar) (b : Bar) : Option Bool := if b ∈ S then some true else none
theorem seen_put {m : List (Bar × Bool × Nat)} {S : List Bar} {a : Bar} {c : Nat} (h : ∀ b, mget b m = seenO S b) (b : Bar) : mget b (mput a true c m) = seenO (S ++ [a]) b := by
  rw [mget_put, h b]
  unfold seenO
  by_cases hb : b = a
  · simp [hb]
  · simp [hb]
theorem seen_look {m : List (Bar × Bool × Nat)} {S : List Bar} (h : ∀ b, mget b m = seenO S b) (b : Bar) : (match mget b m with | some v => Value.bool v | none => Value.bool false) = Value.bool (decide (b ∈ S)) := by
  rw [h b]
  unfold seenO
  by_cases hb : b ∈ S <;> simp [hb]
theorem seen_congr {m : List (Bar × Bool × Nat)} {S S' : List Bar} (h : ∀ b, mget b m = seenO S b) (hs : ∀ b, b ∈ S ↔ b ∈ S') (b : Bar) : mget b m = seenO S' b := by
  rw [h b]; unfold seenO; simp only [hs b]
/-! ## rows of rows -/
abbrev SlV := Option Addr × Nat × Nat
def slV (t : SlV) : Value := .slice t.1 t.2.1 t.2.2
def rc (t : SlV) : List Value := [slV t]
theorem rc_len (t : SlV) : (rc t).length = 1 := rfl
theorem rc_one (t : SlV) : ∀ u ∈ rc t, u.oneCell' = true := by intro u hu; simp [rc] at hu; subst hu; rfl
theorem rows_elem : Elem Tryz.prog 33 22 1 24 := ⟨by kernel_rfl, by kernel_rfl, by decide⟩
abbrev OwV (base : Nat) := Own rc 1 base 22
/-- the rows of a row of rows, each a row of the call's own -/
def RowsAt (base : Nat) (w : World) : List SlV → List (List Bar) → Prop
  | [], [] => True
  | t :: ts, L :: Ls => OwB base w (slV t) L ∧ RowsAt base w ts Ls
  | _, _ => False
theorem RowsAt.len {base : Nat} {w : World} : ∀ {ts : List SlV} {Ls : List (List Bar)}, RowsAt base w ts Ls → ts.length = Ls.length
  | [], [], _ => rfl
  | _ :: _, _ :: _, h => by simp [RowsAt.len h.2]
  | [], _ :: _, h => h.elim
  | _ :: _, [], h => h.elim
theorem RowsAt.map_ {base base' : Nat} {w w' : World} (hm : ∀ v L, OwB base w v L → OwB base' w' v L) : ∀ {ts : List SlV} {Ls : List (List Bar)}, RowsAt base w ts Ls → RowsAt base' w' ts Ls
  | [], [], _ => trivial
  | _ :: _, _ :: _, h => ⟨hm _ _ h.1, h.2.map_ hm⟩
  | [], _ :: _, h => h.elim
  | _ :: _, [], h => h.elim
theorem RowsAt.snoc {base : Nat} {w : World} {t : SlV} {L : List Bar} (ht : OwB base w (slV t) L) : ∀ {ts : List SlV} {Ls : List (List Bar)}, RowsAt base w ts Ls → RowsAt base w (ts ++ [t]) (Ls ++ [L])
  | [], [], _ => ⟨ht, trivial⟩
  | _ :: _, _ :: _, h => ⟨h.1, h.2.snoc ht⟩
  | [], _ :: _, h => h.elim
  | _ :: _, [], h => h.elim
theorem RowsAt.get {base : Nat} {w : World} : ∀ {ts : List SlV} {Ls : List (List Bar)} {i : Nat}, RowsAt base w ts Ls → (hi : i < ts.length) → (hj : i < Ls.length) → OwB base w (slV ts[i]) Ls[i]
  | _ :: _, _ :: _, 0, h, _, _ => h.1
  | _ :: _, _ :: _, i + 1, h, hi, hj => by
    simp only [List.getElem_cons_succ]
    exact h.2.get _ _
  | [], _, _, _, hi, _ => by simp at hi
  | _ :: _, [], _, h, _, _ => h.elim
/-- the call returns a fresh row of fresh rows of bars -/
def OwRR (base : Nat) (w : World) (v : Value) (Ls : List (List Bar)) : Prop := ∃ ts, OwV base w v ts ∧ RowsAt base w ts Ls
def RRB (w : World) (Ls : List (List Bar)) (e : Ending) (w' : World) : Prop := ∃ v, e = .returned v ∧ OwRR w.heap.size w' v Ls ∧ Below w.heap.size w w'
theorem Sl.one_row (w : World) (t : SlV) (g : Nat) (hg : w.heap.size = g) : Sl rc 1 (w.alloc (.cells #[slV t] 22)) (.slice (some ⟨g, 0, none⟩) 1 1) [t] := by
  subst hg
  have hB := Blk.new w 22 #[slV t]
  refine ⟨_, 1, rfl, by simp, by simp [maxLen], fun i b hb => ?_⟩
  match i, hb with
  | 0, hb =>
    obtain rfl : t = b := by simpa using hb
    refine ⟨_, 0, rfl, hB.lt, fun j u hj => ?_⟩
    rw [hB.cell]
    simpa [rc] using hj
section
variable {ops : Array Oper} {rest : List Oper} {o : Oper} {a : Act} {Q : Exit → Act → World → Prop} {base : Nat} {W : World} {v : Value} {A : Option Addr} {n c : Nat}
theorem wpList_appR {l : List SlV} (hown : OwV base W v l) {g : Nat} (hgd : o.guard = none) (s x : Operand) (ho : o.op = .call { callee := .builtin .append, args := #[s, x], argTypes := #[33, 33] })
    (hs : a.eval s = v) (hx : a.eval x = .slice (some ⟨g, 0, none⟩) 1 1) (hg : W.heap.size = g) (hlen : l.length ≤ 1000000) (hbase : base ≤ W.heap.size)
    (h : ∀ v' w', OwV base w' v' (l ++ [(A, n, c)]) → (W.alloc (.cells #[.slice A n c] 22)).grownBy w' v.ownBlock → wpList Tryz.prog ops Q rest (a.put o.dst v') w') :
    wpList Tryz.prog ops Q (o :: rest) a (W.alloc (.cells #[.slice A n c] 22)) :=
  wpList_app hgd rows_elem rc_len rc_one s x ho base v _ l [(A, n, c)] hs hx (hown.alloc _) (Sl.one_row W (A, n, c) g hg) (by simp [maxLen]; omega) (by simp; omega) (by simp; omega) h
end
/-! ## what a call leaves -/
theorem chg_row {w W W' : World} {r : Nat} {v : Value} {α : Type} {enc : α → List Value} {sz : Nat} {e : TypeId} {l : List α} (h : Chg [r] w W) (hown : Own enc sz w.heap.size e W v l) (hg : W.grownBy W' v.ownBlock) : Chg [r] w W' := by
  exact ⟨hg.os.trans h.os, hg.tape.trans h.tape, hg.output.trans h.output, Nat.le_trans h.size hg.size, fun k hk hn => (hg.block k (by have := h.size; omega) (fun e => by have := (hown.lt k (by simp [← e])).1; omega)).trans (h.block k hk hn)⟩
end Go.Proofs.YtpompeancmonbaaGreat

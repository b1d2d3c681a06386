/- The knots of a net, of the program, walked. Conditions: bars within bounds. -/
import Derived.Test.YtpompeancmonbaaGreatE08
import Derived.Test.YtpompeancmonbaaGreatE17
import Derived.Test.YtpompeancmonbaaGreatE23
import Derived.Test.YtpompeancmonbaaGreatE22
import Derived.Test.YtpompeancmonbaaGreatE24
import Derived.Test.YtpompeancmonbaaGreatE26
import Derived.Test.YtpompeancmonbaaGreatE14
import Derived.Test.YtpompeancmonbaaGreatE28
import Derived.Deep.CutRange
namespace Go.Proofs.YtpompeancmonbaaGreat
open Go.RowKit Go.ChangeMaps
set_option maxHeartbeats 4000000
set_option maxRecDepth 100000

theorem Blk.two_knots {w : World} {g : Nat} {t : TypeId} {x y x' y' : Int} (hB : Blk w g t #[.int .i64 x, .int .i64 y, .int .i64 x', .int .i64 y']) : SlK w (.slice (some ⟨g, 0, none⟩) 2 2) [(x, y), (x', y')] := by
  refine ⟨_, 2, rfl, by simp, by simp [maxLen], fun i b hb => ?_⟩
  match i, hb with
  | 0, hb =>
    obtain rfl : (x, y) = b := by simpa using hb
    refine ⟨_, 0, rfl, hB.lt, fun j u hj => ?_⟩
    rw [hB.cell]
    match j, hj with
    | 0, hj => simpa [kc] using hj
    | 1, hj => simpa [kc] using hj
  | 1, hb =>
    obtain rfl : (x', y') = b := by simpa using hb
    refine ⟨_, 0, rfl, hB.lt, fun j u hj => ?_⟩
    rw [hB.cell]
    match j, hj with
    | 0, hj => simpa [kc] using hj
    | 1, hj => simpa [kc] using hj
theorem endsL_mem (l : List Bar) (k : Knot) : k ∈ endsL l ↔ ∃ b ∈ l, k = lowK b ∨ k = uppK b := by
  unfold endsL
  simp [List.mem_flatMap]
theorem endsL_take {l : List Bar} {k : Nat} (hk : k < l.length) : endsL (l.take (k + 1)) = endsL (l.take k) ++ [lowK l[k], uppK l[k]] := by
  unfold endsL
  rw [List.take_succ_eq_append_getElem hk, List.flatMap_append]; rfl
theorem knots_eq (l : List Bar) : ddL (srtK (endsL l)) = holeK l :=
  sortedK_eq (dd_sorted kltP_tr (sorted_of ltK_iff swoK (fun _ _ => kltP_tri) _)) (holeK_sorted l) fun k => by
    rw [dd_mem, srtK_mem, endsL_mem]
    unfold holeK
    rw [holeIn_mem]
    simp
theorem nknots_any {v : Value} (l : List Bar) (w : World) (h : SlB w v l) (hk : ∀ b ∈ l, BarOk b) (hlen : l.length ≤ 10000) : Calls Tryz.prog 69 #[v] w (RK w (holeK l)) := by
  obtain ⟨A, c, rfl, hlc, hcm, h⟩ := h
  have HK := Lib.hid hk
  clear hk
  go_enter Tryz.func69, Tryz.ntmps69
  go_wp2
  go_loopw [3, 9] (fun o i wr => ∃ k : Nat, k ≤ l.length ∧ i = .int .i64 k ∧ OwK w.heap.size wr o (endsL (l.take k)) ∧ Below w.heap.size w wr) (fun _ i _ => l.length - (intOf i).toNat)
  case atStart => exact ⟨0, Nat.zero_le _, rfl, Own.nil_, by (repeat (first | exact bl_refl | assumption | (apply bl_then; assumption) | refine bl_alloc ?_ _ | refine bl_drew ?_ | refine bl_drewN ?_ _))⟩
  case round =>
    obtain ⟨k, hk, rfl, hO, hbw⟩ := hrel
    obtain ⟨wo, rfl⟩ : ∃ x, x = wr := ⟨_, rfl⟩
    by_cases hlt : k < l.length
    · have hr := h.below hbw
      obtain ⟨b, off, rfl, hb, e0, e1, e2⟩ := hr.bar hlt
      have hbo := HK.out _ (List.getElem_mem hlt)
      have HD := Lib.hid (endsL_take hlt)
      have hll := endsL_len (l.take k)
      have htk : (l.take k).length ≤ 10000 := by simp; omega
      obtain ⟨⟨x, y, s⟩, hx⟩ : ∃ z, l[k] = z := ⟨_, rfl⟩
      rw [hx] at e0 e1 e2 hbo HD
      simp only at e0 e1 e2
      clear hx
      obtain ⟨q1, q2, q3⟩ := hbo
      simp only at q1 q2 q3
      have hOa := hO.alloc (.cells #[.int .i64 x, .int .i64 y, .int .i64 s] 46)
      go_wp2_with fail
      refine (nends_any _ _ _ (by omega) (by omega) (by omega) _).mono ?_
      rintro e w1 ⟨rfl, hb1⟩
      have hO1 := hOa.below hb1
      have hbw1 : Below w.heap.size w w1 := by (repeat (first | exact bl_refl | assumption | (apply bl_then; assumption) | refine bl_alloc ?_ _ | refine bl_drew ?_ | refine bl_drewN ?_ _))
      have hB1 := Blk.new w1 115 #[.int .i64 x, .int .i64 y, .int .i64 (x + s), .int .i64 (y + 1)]
      have hO2 := hO1.alloc (.cells #[.int .i64 x, .int .i64 y, .int .i64 (x + s), .int .i64 (y + 1)] 115)
      go_wp2_with (at_builtin; refine wpList_appKS hO2 hB1.two_knots rfl _ _ rfl rfl rfl (by simp; omega) (Below.size (show Below w.heap.size w (w1.alloc (.cells #[.int .i64 x, .int .i64 y, .int .i64 (x + s), .int .i64 (y + 1)] 115)) by (repeat (first | exact bl_refl | assumption | (apply bl_then; assumption) | refine bl_alloc ?_ _ | refine bl_drew ?_ | refine bl_drewN ?_ _)))) ?_; intro v3 w3 hown3 hgr3)
      have hb3 := own_step hO2 hgr3 (by (repeat (first | exact bl_refl | assumption | (apply bl_then; assumption) | refine bl_alloc ?_ _ | refine bl_drew ?_ | refine bl_drewN ?_ _)))
      clear hgr3
      go_wp2
      go_roundw
      case rel => exact ⟨k + 1, by omega, by go_num, by rw [HD.out]; exact hown3, hb3⟩
      case measure => simp [intOf]; omega
    · have HE : Hid (endsL l = endsL (l.take k)) := by unfold Hid; rw [List.take_of_length_le (by omega)]
      have hO3 : OwK w.heap.size wo _ (endsL l) := HE.out ▸ hO
      have hel := endsL_len l
      go_wp2_with fail
      refine (sortK_anyN _ _ hO3 (by omega)).mono ?_
      rintro e w4 ⟨rfl, hO4, hg4⟩
      have hb4 := own_step hO3 hg4 hbw
      go_wp2_with fail
      refine (compactK_any _ _ hO4 (by rw [srtK_length]; omega)).mono ?_
      rintro e w5 ⟨v5, rfl, hO5, hg5⟩
      have hb5 := own_step hO4 hg5 hb4
      rw [knots_eq] at hO5
      go_wp2
      go_ret
      exact ⟨_, rfl, hO5, hb5⟩
end Go.Proofs.YtpompeancmonbaaGreat

/- The degrees of the knots of a net, of the program, walked. Conditions: bars within bounds. -/
namespace Go.Proofs.YtpompeancmonbaaGreat
open Go.RowKit Go.ChangeMaps
set_option maxHeartbeats 4000000
set_option maxRecDepth 100000

section
variable {κ : Type} [DecidableEq κ]
variable {ek : κ → Value} {w : World} {r : Nat} {m : List (κ × Nat × Nat)} {c : Nat} {P : Program} {k e t : TypeId}
/-- 'm[k]++', its operations apart; what else lies in the heap stays -/
theorem MapAt.incrC (h : MapAt ek cntV w r m c) (ok : MOk m c) (K : KeyLaw P k ek) (ht : P.underlying t = some (.map k e)) (hz : ∀ u : World, (zeroValue e).run P u = .ok (.int .i64 0) u) (a : κ) {v0 : Nat} (hv : (mget a m).getD 0 = v0) :
    ∃ (w1 w2 : World) (sm c2 : Nat), (Instr.mapEntry t (.map (some r)) (ek a)).run P w = .ok (.tuple #[.int .i64 (v0 : Int), .int .i64 (sm : Int)]) w1 ∧
      (Instr.lookup t (.map (some r)) (ek a) false).run P w = .ok (.int .i64 (v0 : Int)) w ∧ (Instr.lookup t (.map (some r)) (ek a) false).run P w1 = .ok (.int .i64 (v0 : Int)) w1 ∧
      (Instr.entryStore t (.map (some r)) (.int .i64 (sm : Int)) (.int .i64 ((v0 : Int) + 1))).run P w1 = .ok () w2 ∧
      MapAt ek cntV w2 r (mput a (v0 + 1) c m) c2 ∧ MOk (mput a (v0 + 1) c m) c2 ∧ Chg [r] w w1 ∧ Chg [r] w w2 := by
  have hlt := h.lt
  have e1 := h.entry K ht (z := 0) (hz w) a
  rw [hv] at e1
  have h1 : MapAt ek cntV (setBlock w r (.map ((mput a v0 c m).map (ment ek cntV)).toArray (mclk a m c))) r (mput a v0 c m) (mclk a m c) := by
    show (w.heap.setIfInBounds r _)[r]? = _
    rw [Array.getElem?_setIfInBounds_self_of_lt hlt]
  have ok1 := ok.put a v0
  have e2 := h.look K ht (hz w) a
  have e3 := h1.look K ht (hz _) a
  have e4 := h1.estore (t := t) ok1 a (mput_mem a v0 c m) (v0 + 1) (P := P)
  rw [mput_put, mstamp_put] at e4
  have h2 : MapAt ek cntV (setBlock (setBlock w r (.map ((mput a v0 c m).map (ment ek cntV)).toArray (mclk a m c))) r (.map ((mput a (v0 + 1) c m).map (ment ek cntV)).toArray (mclk a m c))) r (mput a (v0 + 1) c m) (mclk a m c) := by
    show ((w.heap.setIfInBounds r _).setIfInBounds r _)[r]? = _
    rw [Array.getElem?_setIfInBounds_self_of_lt (by simp; exact hlt)]
  refine ⟨_, _, mstamp a m c, mclk a m c, e1, ?_, ?_, e4, h2, ok.put a (v0 + 1), Chg.refl.setBlock (by simp) _, (Chg.refl.setBlock (by simp) _).setBlock (by simp) _⟩
  · rw [e2]
    cases hm : mget a m with
    | none => rw [hm] at hv; obtain rfl : 0 = v0 := hv; rfl
    | some q => rw [hm] at hv; obtain rfl : q = v0 := hv; rfl
  · rw [e3, mget_put, if_pos rfl]; rfl
end
theorem und_kint : Tryz.prog.underlying 117 = some (.map 32 3) := by kernel_rfl
theorem zero_int (w : World) : (zeroValue 3).run Tryz.prog w = .ok (.int .i64 0) w := by kernel_rfl
/-- how many of the ends are a knot, as a map has it -/
def cntO (n : Nat) : Option Nat := if n = 0 then none else some n
def degN (l : List Bar) (k : Knot) : Nat := (endsL l).count k
/-- a map of the call's own that holds the degrees -/
def RM (w : World) (f : Knot → Nat) (e : Ending) (w' : World) : Prop :=
  ∃ r m c, e = .returned (.map (some r)) ∧ w.heap.size ≤ r ∧ MapAt kk cntV w' r m c ∧ MOk m c ∧ (∀ k, mget k m = cntO (f k)) ∧ Below w.heap.size w w'
theorem cntO_getD (n : Nat) : (cntO n).getD 0 = n := by unfold cntO; split <;> simp_all
theorem cnt_put {m : List (Knot × Nat × Nat)} {E : List Knot} {a : Knot} {c : Nat} (h : ∀ k, mget k m = cntO (E.count k)) (k : Knot) : mget k (mput a (E.count a + 1) c m) = cntO ((E ++ [a]).count k) := by
  rw [mget_put, List.count_append]
  by_cases hk : k = a
  · subst hk
    rw [if_pos rfl]
    simp [cntO]
  · rw [if_neg hk, h k]
    have : List.count k [a] = 0 := by simp [Ne.symm hk]
    rw [this, Nat.add_zero]
theorem degrees_any {v : Value} (l : List Bar) (w : World) (h : SlB w v l) (hk : ∀ b ∈ l, BarOk b) (hlen : l.length ≤ 10000) : Calls Tryz.prog 61 #[v] w (RM w (degN l)) := by
  obtain ⟨A, c, rfl, hlc, hcm, h⟩ := h
  have HK := Lib.hid hk
  clear hk
  have hM0 := MapAt.new w kk cntV
  go_enter Tryz.func61, Tryz.ntmps61
  go_wp2
  go_loopw [11] (fun i wr => ∃ k : Nat, k ≤ l.length ∧ i = .int .i64 k ∧ (∃ m c, MapAt kk cntV wr w.heap.size m c ∧ Hid (MOk m c ∧ ∀ q, mget q m = cntO ((endsL (l.take k)).count q))) ∧ Below w.heap.size w wr) (fun i _ => l.length - (intOf i).toNat)
  case atStart => exact ⟨0, Nat.zero_le _, rfl, ⟨[], 0, hM0, MOk.nil_, fun q => by simp [endsL, mget, cntO]⟩, by (repeat (first | exact bl_refl | assumption | (apply bl_then; assumption) | refine bl_alloc ?_ _ | refine bl_drew ?_ | refine bl_drewN ?_ _))⟩
  case round =>
    clear hM0
    obtain ⟨k, hk, rfl, ⟨m, cm, hM, HM⟩, hbw⟩ := hrel
    obtain ⟨wo, rfl⟩ : ∃ x, x = wr := ⟨_, rfl⟩
    by_cases hlt : k < l.length
    · have hr := h.below hbw
      obtain ⟨b, off, rfl, hb, e0, e1, e2⟩ := hr.bar hlt
      have hbo := HK.out _ (List.getElem_mem hlt)
      have HD := Lib.hid (endsL_take hlt)
      have hll := endsL_len (l.take k)
      have htk : (l.take k).length ≤ 10000 := by simp; omega
      obtain ⟨E, hE⟩ : ∃ E, endsL (l.take k) = E := ⟨_, rfl⟩
      rw [hE] at HM HD hll
      have hEl : E.length ≤ 20000 := by omega
      clear hll htk hE
      obtain ⟨⟨x, y, s⟩, hx⟩ : ∃ z, l[k] = z := ⟨_, rfl⟩
      rw [hx] at e0 e1 e2 hbo HD
      simp only at e0 e1 e2
      clear hx
      obtain ⟨q1, q2, q3⟩ := hbo
      simp only at q1 q2 q3
      have hMa := hM.alloc (.cells #[.int .i64 x, .int .i64 y, .int .i64 s] 46)
      go_wp2_with fail
      refine (nends_any _ _ _ (by omega) (by omega) (by omega) _).mono ?_
      rintro e w1 ⟨rfl, hb1⟩
      have hM1 := hMa.below hb1
      have hbw1 : Below w.heap.size w w1 := by (repeat (first | exact bl_refl | assumption | (apply bl_then; assumption) | refine bl_alloc ?_ _ | refine bl_drew ?_ | refine bl_drewN ?_ _))
      have HM1 : Hid (MOk m cm ∧ ∀ q, mget q m = cntO ((E ++ [lowK (x, y, s), uppK (x, y, s)].take 0).count q)) := by simpa [Hid] using HM
      clear hMa hb1 HM hM e0 e1 e2
      go_wp2
      go_loopw [17] (fun i wr => ∃ n : Nat, n ≤ 2 ∧ i = .int .i64 n ∧ (∃ m c, MapAt kk cntV wr w.heap.size m c ∧ Hid (MOk m c ∧ ∀ q, mget q m = cntO ((E ++ [lowK (x, y, s), uppK (x, y, s)].take n).count q))) ∧ Below w.heap.size w wr) (fun i _ => 2 - (intOf i).toNat)
      case atStart => exact ⟨0, by omega, rfl, ⟨m, cm, hM1, HM1⟩, hbw1⟩
      case round =>
        clear hM1 HM1 hbw1
        obtain ⟨n, hn, rfl, ⟨m2, c2, hM, HM⟩, hbq⟩ := hrel
        obtain ⟨wq, rfl⟩ : ∃ x, x = wr := ⟨_, rfl⟩
        by_cases hn2 : n < 2
        · obtain ⟨⟨ex, ey⟩, hex⟩ : ∃ z, endK (x, y, s) n = z := ⟨_, rfl⟩
          have hEX : Hid ([lowK (x, y, s), uppK (x, y, s)].take (n + 1) = [lowK (x, y, s), uppK (x, y, s)].take n ++ [(ex, ey)]) := by
            rw [← hex]
            obtain rfl | rfl : n = 0 ∨ n = 1 := by omega
            · rfl
            · rfl
          obtain ⟨F, hF⟩ : ∃ F, E ++ [lowK (x, y, s), uppK (x, y, s)].take n = F := ⟨_, rfl⟩
          have HF := Lib.hid hF
          rw [hF] at HM
          obtain ⟨v0, hv0⟩ : ∃ v0, F.count (ex, ey) = v0 := ⟨_, rfl⟩
          have hmv : (mget ((ex, ey) : Knot) m2).getD 0 = v0 := by rw [HM.out.2, cntO_getD, hv0]
          have hvl : v0 ≤ 20002 := by
            rw [← hv0, ← hF]
            refine Nat.le_trans List.count_le_length ?_
            rw [List.length_append, List.length_take]
            simp
            omega
          have hMb := hM.alloc (.cells #[.int .i64 ex, .int .i64 ey] 32)
          have hlt2 := hM.lt
          obtain ⟨w3, w4, sm, c3, he1, hl0, hl1, he2, hMp, hok2, hC1, hC2⟩ := MapAt.incrC hMb.drew HM.out.1 knot_key und_kint zero_int ((ex, ey) : Knot) hmv
          have HM2 : Hid (MOk (mput ((ex, ey) : Knot) (v0 + 1) c2 m2) c3 ∧ ∀ q, mget q (mput ((ex, ey) : Knot) (v0 + 1) c2 m2) = cntO ((E ++ [lowK (x, y, s), uppK (x, y, s)].take (n + 1)).count q)) := ⟨hok2, fun q => by
            rw [hEX.out, ← List.append_assoc, HF.out, ← hv0]
            exact cnt_put HM.out.2 q⟩
          have hbN : Below w.heap.size w ((wq.alloc (.cells #[.int .i64 ex, .int .i64 ey] 32)).drew) := by (repeat (first | exact bl_refl | assumption | (apply bl_then; assumption) | refine bl_alloc ?_ _ | refine bl_drew ?_ | refine bl_drewN ?_ _))
          have hbw4 : Below w.heap.size w w4 := ((Chg.of_below hbN).trans (hC2.mono (S' := [w.heap.size]) (by simp))).below (by simp) (Nat.le_refl _)
          have hb3 : Below w.heap.size ((wq.alloc (.cells #[.int .i64 ex, .int .i64 ey] 32)).drew) w3 := hC1.below (by simp) (by simp; omega)
          have hKB := (Blk.new wq 32 #[.int .i64 ex, .int .i64 ey]).drew
          have hKB3 := hKB.chg hC1 (by simp; omega)
          have HXK := Lib.hid hex
          have hwr : IntKind.i64.wrap ((v0 : Int) + 1) = (v0 : Int) + 1 := IntWalk.i64_in _ (by omega)
          have hmp := hMp.lt
          clear hF hv0 hmv hok2 HM hM hMb hC1 hC2 hex hvl
          obtain rfl | rfl : n = 0 ∨ n = 1 := by omega
          · obtain ⟨rfl, rfl⟩ : x = ex ∧ y = ey := by have := HXK.out; simp only [endK, lowK, Prod.mk.injEq] at this; exact this
            obtain ⟨P0, hP0⟩ : ∃ P0 : World → Prop, P0 = fun u => (Instr.lookup 117 (.map (some w.heap.size)) (.agg #[.int .i64 x, .int .i64 y]) false).run Tryz.prog u = .ok (.int .i64 (v0 : Int)) u ∧ u.cell? ⟨wq.heap.size, 0, none⟩ = some (.int .i64 x) ∧ u.cell? ⟨wq.heap.size, 1, none⟩ = some (.int .i64 y) := ⟨_, rfl⟩
            have hPi : ∀ u, P0 u → (Instr.lookup 117 (.map (some w.heap.size)) (.agg #[.int .i64 x, .int .i64 y]) false).run Tryz.prog u = .ok (.int .i64 (v0 : Int)) u ∧ u.cell? ⟨wq.heap.size, 0, none⟩ = some (.int .i64 x) ∧ u.cell? ⟨wq.heap.size, 1, none⟩ = some (.int .i64 y) := fun u h => by rw [hP0] at h; exact h
            have hp0 : P0 ((wq.alloc (.cells #[.int .i64 x, .int .i64 y] 32)).drew) := by rw [hP0]; exact ⟨hl0, by rw [hKB.cell]; rfl, by rw [hKB.cell]; rfl⟩
            have hp1 : P0 w3 := by rw [hP0]; exact ⟨hl1, by rw [hKB3.cell]; rfl, by rw [hKB3.cell]; rfl⟩
            have hlook : ∀ g : BelM w.heap.size (wq.alloc (.cells #[.int .i64 x, .int .i64 y] 32)) P0, (Instr.lookup 117 (.map (some w.heap.size)) (.agg #[.int .i64 x, .int .i64 y]) false).run Tryz.prog g.val = .ok (.int .i64 (v0 : Int)) g.val := fun g => (hPi _ g.has).1
            have hcl0 : ∀ g : BelM w.heap.size (wq.alloc (.cells #[.int .i64 x, .int .i64 y] 32)) P0, g.val.cell? ⟨wq.heap.size, 0, none⟩ = some (.int .i64 x) := fun g => (hPi _ g.has).2.1
            have hcl1 : ∀ g : BelM w.heap.size (wq.alloc (.cells #[.int .i64 x, .int .i64 y] 32)) P0, g.val.cell? ⟨wq.heap.size, 1, none⟩ = some (.int .i64 y) := fun g => (hPi _ g.has).2.2
            have hst1 : Below w.heap.size (wq.alloc (.cells #[.int .i64 x, .int .i64 y] 32)) w3 := (Below.refl _ _).drew.trans hb3
            haveI hne' : Nonempty (BelM w.heap.size (wq.alloc (.cells #[.int .i64 x, .int .i64 y] 32)) P0) := BelM.none_empty hst1 hp1
            have he1' : (Instr.mapEntry 117 (.map (some w.heap.size)) (.agg #[.int .i64 x, .int .i64 y])).run Tryz.prog (wq.alloc (.cells #[.int .i64 x, .int .i64 y] 32)).drew = .ok (.tuple #[.int .i64 (v0 : Int), .int .i64 (sm : Int)]) w3 := he1
            clear hP0 he1 hl0 hl1
            go_upto_region 8 with fail
            refine wp_region_ordm (w.heap.size) (P0) [0, 1, 2, 3] [(4, false), (5, false)] [6] (by kernel_rfl) (by kernel_rfl) (fun d _ _ _ _ h => by cases d <;> exact h) (hp0) ?_
            simp only [List.map_cons, List.map_nil, List.getD_cons_zero, List.getD_cons_succ]
            repeat (go_big_quiet_step (fail))
            refine wpQuiet_nil ?_
            refine wpMid_runm rfl (fun K hK => ?_)
            go_simp
            refine hK _ _ (hst1) (hp1) ?_
            clear hK K
            refine wpMid_runm rfl (fun K hK => ?_)
            go_simp
            refine hK _ _ (hst1) (hp1) ?_
            clear hK K
            refine wpMid_nil ?_
            clear hlook hcl0 hcl1 hne' he1' hp0 hp1
            go_wp2
            go_roundw
            case rel => exact ⟨1, by omega, by go_num, ⟨_, _, hMp, HM2⟩, hbw4⟩
            case measure => simp [intOf]
          · obtain ⟨rfl, rfl⟩ : (x + s) = ex ∧ (y + 1) = ey := by have := HXK.out; simp only [endK, uppK, Prod.mk.injEq] at this; exact this
            obtain ⟨P0, hP0⟩ : ∃ P0 : World → Prop, P0 = fun u => (Instr.lookup 117 (.map (some w.heap.size)) (.agg #[.int .i64 (x + s), .int .i64 (y + 1)]) false).run Tryz.prog u = .ok (.int .i64 (v0 : Int)) u ∧ u.cell? ⟨wq.heap.size, 0, none⟩ = some (.int .i64 (x + s)) ∧ u.cell? ⟨wq.heap.size, 1, none⟩ = some (.int .i64 (y + 1)) := ⟨_, rfl⟩
            have hPi : ∀ u, P0 u → (Instr.lookup 117 (.map (some w.heap.size)) (.agg #[.int .i64 (x + s), .int .i64 (y + 1)]) false).run Tryz.prog u = .ok (.int .i64 (v0 : Int)) u ∧ u.cell? ⟨wq.heap.size, 0, none⟩ = some (.int .i64 (x + s)) ∧ u.cell? ⟨wq.heap.size, 1, none⟩ = some (.int .i64 (y + 1)) := fun u h => by rw [hP0] at h; exact h
            have hp0 : P0 ((wq.alloc (.cells #[.int .i64 (x + s), .int .i64 (y + 1)] 32)).drew) := by rw [hP0]; exact ⟨hl0, by rw [hKB.cell]; rfl, by rw [hKB.cell]; rfl⟩
            have hp1 : P0 w3 := by rw [hP0]; exact ⟨hl1, by rw [hKB3.cell]; rfl, by rw [hKB3.cell]; rfl⟩
            have hlook : ∀ g : BelM w.heap.size (wq.alloc (.cells #[.int .i64 (x + s), .int .i64 (y + 1)] 32)) P0, (Instr.lookup 117 (.map (some w.heap.size)) (.agg #[.int .i64 (x + s), .int .i64 (y + 1)]) false).run Tryz.prog g.val = .ok (.int .i64 (v0 : Int)) g.val := fun g => (hPi _ g.has).1
            have hcl0 : ∀ g : BelM w.heap.size (wq.alloc (.cells #[.int .i64 (x + s), .int .i64 (y + 1)] 32)) P0, g.val.cell? ⟨wq.heap.size, 0, none⟩ = some (.int .i64 (x + s)) := fun g => (hPi _ g.has).2.1
            have hcl1 : ∀ g : BelM w.heap.size (wq.alloc (.cells #[.int .i64 (x + s), .int .i64 (y + 1)] 32)) P0, g.val.cell? ⟨wq.heap.size, 1, none⟩ = some (.int .i64 (y + 1)) := fun g => (hPi _ g.has).2.2
            have hst1 : Below w.heap.size (wq.alloc (.cells #[.int .i64 (x + s), .int .i64 (y + 1)] 32)) w3 := (Below.refl _ _).drew.trans hb3
            haveI hne' : Nonempty (BelM w.heap.size (wq.alloc (.cells #[.int .i64 (x + s), .int .i64 (y + 1)] 32)) P0) := BelM.none_empty hst1 hp1
            have he1' : (Instr.mapEntry 117 (.map (some w.heap.size)) (.agg #[.int .i64 (x + s), .int .i64 (y + 1)])).run Tryz.prog (wq.alloc (.cells #[.int .i64 (x + s), .int .i64 (y + 1)] 32)).drew = .ok (.tuple #[.int .i64 (v0 : Int), .int .i64 (sm : Int)]) w3 := he1
            clear hP0 he1 hl0 hl1
            go_upto_region 8 with fail
            refine wp_region_ordm (w.heap.size) (P0) [0, 1, 2, 3] [(4, false), (5, false)] [6] (by kernel_rfl) (by kernel_rfl) (fun d _ _ _ _ h => by cases d <;> exact h) (hp0) ?_
            simp only [List.map_cons, List.map_nil, List.getD_cons_zero, List.getD_cons_succ]
            repeat (go_big_quiet_step (fail))
            refine wpQuiet_nil ?_
            refine wpMid_runm rfl (fun K hK => ?_)
            go_simp
            refine hK _ _ (hst1) (hp1) ?_
            clear hK K
            refine wpMid_runm rfl (fun K hK => ?_)
            go_simp
            refine hK _ _ (hst1) (hp1) ?_
            clear hK K
            refine wpMid_nil ?_
            clear hlook hcl0 hcl1 hne' he1' hp0 hp1
            go_wp2
            go_roundw
            case rel => exact ⟨2, by omega, by go_num, ⟨_, _, hMp, HM2⟩, hbw4⟩
            case measure => simp [intOf]
        · obtain rfl : n = 2 := by omega
          have HM2 : Hid (MOk m2 c2 ∧ ∀ q, mget q m2 = cntO ((endsL (l.take (k + 1))).count q)) := by
            unfold Hid
            rw [HD.out]
            exact HM
          go_wp2
          go_roundw
          case rel => exact ⟨k + 1, by omega, by go_num, ⟨m2, c2, hM, HM2⟩, hbq⟩
          case measure => simp [intOf]; omega
    · have hE : Hid (endsL l = endsL (l.take k)) := by unfold Hid; rw [List.take_of_length_le (by omega)]
      go_wp2
      go_ret
      exact ⟨_, m, cm, rfl, Nat.le_refl _, hM, HM.out.1, fun q => by unfold degN; rw [hE.out]; exact HM.out.2 q, hbw⟩
end Go.Proofs.YtpompeancmonbaaGreat

/- Knots, Degree and Legs of the program, walked. Conditions: the slices read as lists. -/
namespace Go.Proofs.YtpompeancmonbaaGreat
open Go.RowKit Go.ChangeMaps
set_option maxHeartbeats 4000000
set_option maxRecDepth 100000

theorem NetOk.len1 {l : List Bar} (h : NetOk l) : l.length ≤ 10000 := Nat.le_trans h.len (by decide)
def onlyOk {α : Type} (e : Int) (l : List α) : List α := if e = 0 then l else []
/-- the first error of a net and a number -/
def degE (l : List Bar) (x y : Int) : Int := firstI [netE l, knotE x y]
def degR (l : List Bar) (x y : Int) : Nat := if degE l x y = 0 then degN l (x, y) else 0
theorem degree_any {v : Value} (l : List Bar) (x y : Int) (w : World) (h : SlB w v l) : Calls Tryz.prog 20 #[v, .agg #[.int .i64 x, .int .i64 y]] w (RV w (.tuple #[.int .i64 (degR l x y : Nat), .int .i64 (degE l x y)])) := by
  have hB := Blk.new w 32 #[.int .i64 x, .int .i64 y]
  have h0 := h.alloc (.cells #[.int .i64 x, .int .i64 y] 32)
  have fB := hB.facts
  by_cases hE : degE l x y = 0
  · have hz : netE l = 0 := by
      unfold degE firstI firstI firstI at hE
      split at hE
      · assumption
      · rename_i h1; exact absurd hE h1
    have hok := netE_ok hz
    have HZ := Lib.hid hz
    have HS : Hid (degR l x y = degN l (x, y) ∧ degE l x y = 0) := by unfold Hid degR; rw [if_pos hE]; exact ⟨rfl, hE⟩
    have hF : ∀ A c W, Rd ic 1 W A [netE l, knotE x y] → Calls Tryz.prog 34 #[.slice A 2 c] W (RV W (.int .i64 0)) := fun A c W hr => by
      have := nfirst_any [netE l, knotE x y] A c W (by simp [maxLen]) hr
      rwa [show firstI [netE l, knotE x y] = 0 from hE] at this
    clear hE hz
    go_enter Tryz.func20, Tryz.ntmps20
    go_wp2
    refine wp_region_ords [0, 2] [(1, false)] [3, 4, 5, 6] (by kernel_rfl) (by kernel_rfl) (fun d _ _ _ _ h => by cases d <;> exact h) ?_
    simp only [List.map_cons, List.map_nil, List.getD_cons_zero, List.getD_cons_succ]
    repeat (go_big_quiet_step (fail))
    refine wpQuiet_nil ?_
    refine wpMid_run rfl (fun K hK => ?_)
    go_simp
    refine (nnet_sl l _ (h0.below (by (repeat (first | exact bl_refl | assumption | (apply bl_then; assumption) | refine bl_alloc ?_ _ | refine bl_drew ?_ | refine bl_drewN ?_ _))))).mono ?_
    rintro e w1 ⟨rfl, hb1⟩
    refine hK _ _ (by (repeat (first | exact bl_refl | assumption | (apply bl_then; assumption) | refine bl_alloc ?_ _ | refine bl_drew ?_ | refine bl_drewN ?_ _))) ?_
    clear hK K
    have hB_w1 := hB.below (show Below _ _ w1 by (repeat (first | exact bl_refl | assumption | (apply bl_then; assumption) | refine bl_alloc ?_ _ | refine bl_drew ?_ | refine bl_drewN ?_ _)))
    have fhB_w1 := hB_w1.facts
    refine wpMid_nil ?_
    have h1 := h0.below (show Below _ _ w1 by (repeat (first | exact bl_refl | assumption | (apply bl_then; assumption) | refine bl_alloc ?_ _ | refine bl_drew ?_ | refine bl_drewN ?_ _)))
    go_wp2_with (first | (go_at_call 36; refine (nknot_any x y _).mono ?_; rintro e w2 ⟨rfl, hb2⟩; have hB2 := hB_w1.below hb2; have fB2 := hB2.facts) | (go_at_call 34; go_must (refine (hF _ _ _ (Rd.ints2 (by simp) (by go_simp) (by go_simp))).mono ?_); rintro e w3 ⟨rfl, hb3⟩))
    have hB3 := ((hB2.alloc _).below hb3)
    have fB3 := hB3.facts
    have h3 := (h1.below hb2).below (show Below _ _ w3 by (repeat (first | exact bl_refl | assumption | (apply bl_then; assumption) | refine bl_alloc ?_ _ | refine bl_drew ?_ | refine bl_drewN ?_ _)))
    go_wp2
    refine wp_region_ords [0, 2] [(1, false)] [3, 4, 5] (by kernel_rfl) (by kernel_rfl) (fun d _ _ _ _ h => by cases d <;> exact h) ?_
    simp only [List.map_cons, List.map_nil, List.getD_cons_zero, List.getD_cons_succ]
    repeat (go_big_quiet_step (fail))
    refine wpQuiet_nil ?_
    refine wpMid_run rfl (fun K hK => ?_)
    go_simp
    refine (degrees_any l _ (h3.below (by (repeat (first | exact bl_refl | assumption | (apply bl_then; assumption) | refine bl_alloc ?_ _ | refine bl_drew ?_ | refine bl_drewN ?_ _)))) hok.ok hok.len1).mono ?_
    rintro e w4 ⟨r, m, c, rfl, hr, hM, hokM, hg, hb4⟩
    refine hK _ _ (by (repeat (first | exact bl_refl | assumption | (apply bl_then; assumption) | refine bl_alloc ?_ _ | refine bl_drew ?_ | refine bl_drewN ?_ _))) ?_
    clear hK K
    refine wpMid_nil ?_
    have hlook := hM.look knot_key und_kint (zero_int w4) ((x, y) : Knot)
    rw [hg] at hlook
    have hlk : (Instr.lookup 117 (.map (some r)) (.agg #[.int .i64 x, .int .i64 y]) false).run Tryz.prog w4 = .ok (.int .i64 (degN l (x, y) : Nat)) w4 := by
      rw [show (Instr.lookup 117 (.map (some r)) (.agg #[.int .i64 x, .int .i64 y]) false).run Tryz.prog w4 = _ from hlook]
      unfold cntO cntV
      by_cases h0 : degN l (x, y) = 0
      · simp [h0]
      · simp [h0]
    clear hlook
    go_wp2
    go_ret2
    exact ⟨by rw [HS.out.1, HS.out.2]; rfl, by (repeat (first | exact bl_refl | assumption | (apply bl_then; assumption) | refine bl_alloc ?_ _ | refine bl_drew ?_ | refine bl_drewN ?_ _))⟩
  · have HS : Hid (degR l x y = 0) := by unfold Hid degR; rw [if_neg hE]
    have hE' : (degE l x y != 0) = true := by simpa using hE
    have hF : ∀ A c W, Rd ic 1 W A [netE l, knotE x y] → Calls Tryz.prog 34 #[.slice A 2 c] W (RV W (.int .i64 (degE l x y))) := fun A c W hr => nfirst_any [netE l, knotE x y] A c W (by simp [maxLen]) hr
    clear hE
    go_enter Tryz.func20, Tryz.ntmps20
    go_wp2
    refine wp_region_ords [0, 2] [(1, false)] [3, 4, 5, 6] (by kernel_rfl) (by kernel_rfl) (fun d _ _ _ _ h => by cases d <;> exact h) ?_
    simp only [List.map_cons, List.map_nil, List.getD_cons_zero, List.getD_cons_succ]
    repeat (go_big_quiet_step (fail))
    refine wpQuiet_nil ?_
    refine wpMid_run rfl (fun K hK => ?_)
    go_simp
    refine (nnet_sl l _ (h0.below (by (repeat (first | exact bl_refl | assumption | (apply bl_then; assumption) | refine bl_alloc ?_ _ | refine bl_drew ?_ | refine bl_drewN ?_ _))))).mono ?_
    rintro e w1 ⟨rfl, hb1⟩
    refine hK _ _ (by (repeat (first | exact bl_refl | assumption | (apply bl_then; assumption) | refine bl_alloc ?_ _ | refine bl_drew ?_ | refine bl_drewN ?_ _))) ?_
    clear hK K
    have hB_w1 := hB.below (show Below _ _ w1 by (repeat (first | exact bl_refl | assumption | (apply bl_then; assumption) | refine bl_alloc ?_ _ | refine bl_drew ?_ | refine bl_drewN ?_ _)))
    have fhB_w1 := hB_w1.facts
    refine wpMid_nil ?_
    go_wp2_with (first | (go_at_call 36; refine (nknot_any x y _).mono ?_; rintro e w2 ⟨rfl, hb2⟩) | (go_at_call 34; go_must (refine (hF _ _ _ (Rd.ints2 (by simp) (by go_simp) (by go_simp))).mono ?_); rintro e w3 ⟨rfl, hb3⟩))
    go_ret2
    exact ⟨by rw [HS.out]; rfl, by (repeat (first | exact bl_refl | assumption | (apply bl_then; assumption) | refine bl_alloc ?_ _ | refine bl_drew ?_ | refine bl_drewN ?_ _))⟩
end Go.Proofs.YtpompeancmonbaaGreat

/- The bars around a knot, of the program, walked. Conditions: none. -/
namespace Go.Proofs.YtpompeancmonbaaGreat
open Go.RowKit Go.ChangeMaps
set_option maxHeartbeats 4000000
set_option maxRecDepth 100000

@[go_sem] theorem idx4_0 (a b c d e f g h i j k l : Int) (w : World) : (Instr.index 160 (.agg #[.int .i64 a, .int .i64 b, .int .i64 c, .int .i64 d, .int .i64 e, .int .i64 f, .int .i64 g, .int .i64 h, .int .i64 i, .int .i64 j, .int .i64 k, .int .i64 l]) (.int .i64 0)).run Tryz.prog w = .ok (.agg #[.int .i64 a, .int .i64 b, .int .i64 c]) w := by kernel_rfl
@[go_sem] theorem idx4_1 (a b c d e f g h i j k l : Int) (w : World) : (Instr.index 160 (.agg #[.int .i64 a, .int .i64 b, .int .i64 c, .int .i64 d, .int .i64 e, .int .i64 f, .int .i64 g, .int .i64 h, .int .i64 i, .int .i64 j, .int .i64 k, .int .i64 l]) (.int .i64 1)).run Tryz.prog w = .ok (.agg #[.int .i64 d, .int .i64 e, .int .i64 f]) w := by kernel_rfl
@[go_sem] theorem idx4_2 (a b c d e f g h i j k l : Int) (w : World) : (Instr.index 160 (.agg #[.int .i64 a, .int .i64 b, .int .i64 c, .int .i64 d, .int .i64 e, .int .i64 f, .int .i64 g, .int .i64 h, .int .i64 i, .int .i64 j, .int .i64 k, .int .i64 l]) (.int .i64 2)).run Tryz.prog w = .ok (.agg #[.int .i64 g, .int .i64 h, .int .i64 i]) w := by kernel_rfl
@[go_sem] theorem idx4_3 (a b c d e f g h i j k l : Int) (w : World) : (Instr.index 160 (.agg #[.int .i64 a, .int .i64 b, .int .i64 c, .int .i64 d, .int .i64 e, .int .i64 f, .int .i64 g, .int .i64 h, .int .i64 i, .int .i64 j, .int .i64 k, .int .i64 l]) (.int .i64 3)).run Tryz.prog w = .ok (.agg #[.int .i64 j, .int .i64 k, .int .i64 l]) w := by kernel_rfl
theorem naround_any (x y : Int) (hx : -1000000 ≤ x ∧ x ≤ 1000000) (hy : -1000000 ≤ y ∧ y ≤ 1000000) (w : World) :
    Calls Tryz.prog 104 #[.agg #[.int .i64 x, .int .i64 y]] w (RV w (.agg #[.int .i64 (x - 1), .int .i64 (y - 1), .int .i64 1, .int .i64 (x + 1), .int .i64 (y - 1), .int .i64 (-1), .int .i64 x, .int .i64 y, .int .i64 (-1), .int .i64 x, .int .i64 y, .int .i64 1])) := by
  go_enter Tryz.func104, Tryz.ntmps104
  go_wp2
  refine bodyPost_ret (v := .agg #[.int .i64 (x - 1), .int .i64 (y - 1), .int .i64 1, .int .i64 (x + 1), .int .i64 (y - 1), .int .i64 (-1), .int .i64 x, .int .i64 y, .int .i64 (-1), .int .i64 x, .int .i64 y, .int .i64 1]) (by simp [results, Tryz.results104, go_sem]) rfl ?_
  exact ⟨rfl, by (repeat (first | exact bl_refl | assumption | (apply bl_then; assumption) | refine bl_alloc ?_ _ | refine bl_drew ?_ | refine bl_drewN ?_ _))⟩
/-- the four bars of a knot, in their order -/
def arB (k : Knot) : Nat → Bar
  | 0 => (k.1 - 1, k.2 - 1, 1)
  | 1 => (k.1 + 1, k.2 - 1, -1)
  | 2 => (k.1, k.2, -1)
  | _ => (k.1, k.2, 1)
def okB (b : Bar) : Bool := decide (barE b.1 b.2.1 b.2.2 = 0)
def arL (k : Knot) : Nat → List Bar
  | 0 => []
  | n + 1 => arL k n ++ if okB (arB k n) then [arB k n] else []
/-- the valid bars of a knot -/
def aroundL (k : Knot) : List Bar := if knotE k.1 k.2 = 0 then arL k 4 else []
theorem arL_len (k : Knot) : ∀ n, (arL k n).length ≤ n
  | 0 => Nat.le_refl _
  | n + 1 => by
    have := arL_len k n
    unfold arL
    rw [List.length_append]
    split <;> simp <;> omega
end Go.Proofs.YtpompeancmonbaaGreat

/- The parts of a net, of the program, walked. Conditions: the net has no error. -/
import Derived.Test.YtpompeancmonbaaGreatE08
import Derived.Test.YtpompeancmonbaaGreatE17
import Derived.Test.YtpompeancmonbaaGreatE23
import Derived.Test.YtpompeancmonbaaGreatE22
import Derived.Test.YtpompeancmonbaaGreatE24
import Derived.Test.YtpompeancmonbaaGreatE26
import Derived.Test.YtpompeancmonbaaGreatE14
import Derived.Test.YtpompeancmonbaaGreatE33
import Derived.Deep.CutRange
import Derived.Test.YtpompeancmonbaaGreatE30
namespace Go.Proofs.YtpompeancmonbaaGreat
open Go.RowKit Go.ChangeMaps
set_option maxHeartbeats 4000000
set_option maxRecDepth 100000

def bV (b : Bool) : Value := .bool b
theorem seen_lk {w : World} {r c : Nat} {m : List (Bar × Bool × Nat)} {S : List Bar} (h : MapAt bk bV w r m c) (hs : ∀ b, mget b m = seenO S b) (x y s : Int) :
    (Instr.lookup 119 (.map (some r)) (.agg #[.int .i64 x, .int .i64 y, .int .i64 s]) false).run Tryz.prog w = .ok (.bool (decide ((x, y, s) ∈ S))) w := by
  have := h.look bar_key und_bars (zero_bool w) (x, y, s)
  refine this.trans ?_
  rw [hs (x, y, s)]
  unfold seenO
  by_cases hb : (x, y, s) ∈ S
  · rw [if_pos hb, decide_eq_true hb]; rfl
  · rw [if_neg hb, decide_eq_false hb]
theorem idx4_at (k : Knot) (j : Nat) (hj : j < 4) {x y s : Int} (h : arB k j = (x, y, s)) (w : World) : (Instr.index 160 (.agg #[.int .i64 (k.1 - 1), .int .i64 (k.2 - 1), .int .i64 1, .int .i64 (k.1 + 1), .int .i64 (k.2 - 1), .int .i64 (-1), .int .i64 k.1, .int .i64 k.2, .int .i64 (-1), .int .i64 k.1, .int .i64 k.2, .int .i64 1]) (.int .i64 j)).run Tryz.prog w = .ok (.agg #[.int .i64 x, .int .i64 y, .int .i64 s]) w := by
  obtain rfl | rfl | rfl | rfl : j = 0 ∨ j = 1 ∨ j = 2 ∨ j = 3 := by omega
  all_goals (simp only [arB, Prod.mk.injEq] at h; obtain ⟨rfl, rfl, rfl⟩ := h)
  · exact idx4_0 _ _ _ _ _ _ _ _ _ _ _ _ w
  · exact idx4_1 _ _ _ _ _ _ _ _ _ _ _ _ w
  · exact idx4_2 _ _ _ _ _ _ _ _ _ _ _ _ w
  · exact idx4_3 _ _ _ _ _ _ _ _ _ _ _ _ w
theorem idx2_at (x y s : Int) (n : Nat) (hn : n < 2) {p q : Int} (h : endK (x, y, s) n = (p, q)) (w : World) : (Instr.index 115 (.agg #[.int .i64 x, .int .i64 y, .int .i64 (x + s), .int .i64 (y + 1)]) (.int .i64 n)).run Tryz.prog w = .ok (.agg #[.int .i64 p, .int .i64 q]) w := by
  obtain rfl | rfl : n = 0 ∨ n = 1 := by omega
  all_goals (simp only [endK, lowK, uppK, Prod.mk.injEq] at h; obtain ⟨rfl, rfl⟩ := h; kernel_rfl)
theorem Own.ne_own {α β : Type} {enc : α → List Value} {enc' : β → List Value} {sz sz' base base' : Nat} {e e' : TypeId} {w : World} {v u : Value} {l : List α} {r : List β} (h : Own enc sz base e w v l) (h' : Own enc' sz' base' e' w u r) (hne : e ≠ e') : v.ownBlock = none ∨ v.ownBlock ≠ u.ownBlock := by
  rcases h.2 with ⟨rfl, _⟩ | ⟨g, cap, cur, rfl, _, hh, _⟩
  · exact .inl rfl
  · refine .inr fun e1 => ?_
    rcases h'.2 with ⟨rfl, _⟩ | ⟨g', cap', cur', rfl, _, hh', _⟩
    · cases e1
    · have : g = g' := by simpa [Value.ownBlock] using e1
      subst this
      rw [hh] at hh'
      cases hh'
      exact hne rfl
theorem Own.one_bar {w : World} {base : Nat} (h : base ≤ w.heap.size) (x y s : Int) : OwB base (w.alloc (.cells #[.int .i64 x, .int .i64 y, .int .i64 s] 46)) (.slice (some ⟨w.heap.size, 0, none⟩) 1 1) [(x, y, s)] :=
  ⟨by simp [bc], .inr ⟨w.heap.size, 1, #[.int .i64 x, .int .i64 y, .int .i64 s], rfl, h, heap_alloc_new w _, by simp, by simp [maxLen], by simp, by simp [bc]⟩⟩
/-- what stands while a part is gone through -/
def PrS (l S : List Bar) (r : Nat) (W2 wr : World) (p : Value) (P : List Bar) : Prop :=
  OwB W2.heap.size wr p P ∧ (∃ m c, MapAt bk bV wr r m c ∧ MOk m c ∧ ∀ q, mget q m = seenO (S ++ P) q) ∧ PartOk l S P ∧ Chg [r] W2 wr
theorem PrS.below {l S : List Bar} {r : Nat} {W2 wr w' : World} {p : Value} {P : List Bar} (h : PrS l S r W2 wr p P) (hb : Below wr.heap.size wr w') : PrS l S r W2 w' p P := by
  obtain ⟨h1, ⟨m, c, h2, h3⟩, h4, h5⟩ := h
  exact ⟨h1.below hb, ⟨m, c, h2.below hb, h3⟩, h4, h5.then_ hb⟩
theorem PrS.same {l S : List Bar} {r : Nat} {W2 wr : World} {p : Value} {P P' : List Bar} (h : PrS l S r W2 wr p P) (e : P' = P) : PrS l S r W2 wr p P' := by rw [e]; exact h
theorem PrS.bl {l S : List Bar} {r : Nat} {w W2 wr : World} {p : Value} {P : List Bar} (h : PrS l S r W2 wr p P) (hr : w.heap.size ≤ r) (hw : Below w.heap.size w W2) : Below w.heap.size w wr :=
  hw.trans (h.2.2.2.below (by simpa using hr) hw.size)
/-- a bar joins the part: it is put into the map, then to the row -/
theorem PrS.join {l S : List Bar} {r : Nat} {W2 wr : World} {p : Value} {P : List Bar} {x y s : Int} (h : PrS l S r W2 wr p P) (hn : (x, y, s) ∉ S) (hp : (x, y, s) ∉ P) (hl : (x, y, s) ∈ l) :
    ∃ w6, (Instr.mapUpdate 119 (.map (some r)) (.agg #[.int .i64 x, .int .i64 y, .int .i64 s]) (.bool true)).run Tryz.prog wr = .ok () w6 ∧ OwB W2.heap.size w6 p P ∧ Chg [r] wr w6 ∧ r < wr.heap.size ∧
      ∀ v' w7, OwB W2.heap.size w7 v' (P ++ [(x, y, s)]) → (w6.alloc (.cells #[.int .i64 x, .int .i64 y, .int .i64 s] 46)).grownBy w7 p.ownBlock → PrS l S r W2 w7 v' (P ++ [(x, y, s)]) := by
  obtain ⟨h1, ⟨m, c, h2, h3, h4⟩, h5, h6⟩ := h
  obtain ⟨w6, hput, hM6, hch6⟩ := h2.put_ bar_key und_bars (x, y, s) true
  have h16 := h1.chg1 hch6 (h2.ne_own h1)
  refine ⟨w6, hput, h16, hch6, h2.lt, fun v' w7 ho hg => ⟨ho, ⟨_, _, (hM6.alloc _).grown hg (Ne.symm (hM6.ne_own h16)), h3.put _ _, fun q => ?_⟩, ?_, ?_⟩⟩
  · rw [← List.append_assoc]; exact seen_put h4 q
  · have := h5.try_ (x, y, s)
    unfold tryP at this
    rwa [if_neg (by simp [hn, hp, hl])] at this
  · exact chg_row (h6.trans (hch6.trans (Chg.of_below (bl_alloc bl_refl _)))) (h16.alloc _) hg
theorem nparts_any {v : Value} (l : List Bar) (w : World) (h : SlB w v l) (hok : NetOk l) : Calls Tryz.prog 62 #[v] w (RRB w (partsL l)) := by
  have hS0 := h
  obtain ⟨A, c, rfl, hlc, hcm, h⟩ := h
  have HK := Lib.hid hok
  have hlen := hok.len
  have hM0 := MapAt.new w bk bV
  clear hok
  go_enter Tryz.func62, Tryz.ntmps62
  go_wp2
  go_loopw [3, 16] (fun o i wr => ∃ k : Nat, k ≤ l.length ∧ i = .int .i64 k ∧ (∃ ts, OwV (w.heap.size + 1) wr o ts ∧ RowsAt (w.heap.size + 1) wr ts (prtO l k)) ∧ (∃ m c, MapAt bk bV wr w.heap.size m c ∧ Hid (MOk m c ∧ ∀ q, mget q m = seenO (prtO l k).flatten q)) ∧ Below w.heap.size w wr) (fun _ i _ => l.length - (intOf i).toNat)
  case atStart => exact ⟨0, Nat.zero_le _, rfl, ⟨[], Own.nil_, trivial⟩, ⟨[], 0, hM0, MOk.nil_, fun q => by simp [prtO, mget, seenO]⟩, by (repeat (first | exact bl_refl | assumption | (apply bl_then; assumption) | refine bl_alloc ?_ _ | refine bl_drew ?_ | refine bl_drewN ?_ _))⟩
  case round =>
    clear hM0
    obtain ⟨k, hk, rfl, ⟨ts, hT, hR⟩, ⟨m, cm, hM, HM⟩, hbw⟩ := hrel
    obtain ⟨wo, rfl⟩ : ∃ x, x = wr := ⟨_, rfl⟩
    by_cases hlt : k < l.length
    · have hr := h.below hbw
      obtain ⟨b, off, rfl, hb, e0, e1, e2⟩ := hr.bar hlt
      have hmem := Lib.hid (List.getElem_mem hlt)
      have HD := Lib.hid (prtO_succ hlt)
      have hpl := prtO_len l k
      obtain ⟨O, hO⟩ : ∃ O, prtO l k = O := ⟨_, rfl⟩
      rw [hO] at HM HD hpl hR
      clear hO
      obtain ⟨⟨x, y, s⟩, hx⟩ : ∃ z, l[k] = z := ⟨_, rfl⟩
      rw [hx] at e0 e1 e2 HD hmem
      simp only at e0 e1 e2
      clear hx
      have hMa := hM.alloc (.cells #[.int .i64 x, .int .i64 y, .int .i64 s] 46)
      have hlk := seen_lk hMa HM.out.2 x y s
      have hlt2 := hM.lt
      obtain ⟨q, hq⟩ : ∃ q, decide ((x, y, s) ∈ O.flatten) = q := ⟨_, rfl⟩
      rw [hq] at hlk
      cases q
      · have hnS := Lib.hid (of_decide_eq_false hq)
        have HD2 : Hid (prtO l (k + 1) = O ++ [srtB (colP l O.flatten (l.length + 1) 0 [(x, y, s)])]) := by unfold Hid; rw [HD.out, if_neg hnS.out]
        clear hq HD
        obtain ⟨w2, hput, hM2, hch2⟩ := hMa.put_ bar_key und_bars (x, y, s) true
        have hput' : (Instr.mapUpdate 119 (.map (some w.heap.size)) (.agg #[.int .i64 x, .int .i64 y, .int .i64 s]) (.bool true)).run Tryz.prog (wo.alloc (.cells #[.int .i64 x, .int .i64 y, .int .i64 s] 46)) = .ok () w2 := hput
        have hBx := (Blk.new wo 46 #[.int .i64 x, .int .i64 y, .int .i64 s]).chg hch2 (by simp; omega)
        have fBx := hBx.facts
        have HM2 := Lib.hid (show MOk (mput ((x, y, s) : Bar) true cm m) (mclk ((x, y, s) : Bar) m cm) ∧ ∀ q, mget q (mput ((x, y, s) : Bar) true cm m) = seenO (O.flatten ++ [(x, y, s)]) q from ⟨HM.out.1.put _ _, fun q => seen_put HM.out.2 q⟩)
        have hT2 := (hT.alloc (.cells #[.int .i64 x, .int .i64 y, .int .i64 s] 46)).chg1 hch2 (hMa.ne_own (hT.alloc _))
        have hR2 : RowsAt (w.heap.size + 1) w2 ts O := hR.map_ fun v L h => (h.alloc (.cells #[.int .i64 x, .int .i64 y, .int .i64 s] 46)).chg1 hch2 (hMa.ne_own (h.alloc _))
        have hbwa : Below w.heap.size w (wo.alloc (.cells #[.int .i64 x, .int .i64 y, .int .i64 s] 46)) := by (repeat (first | exact bl_refl | assumption | (apply bl_then; assumption) | refine bl_alloc ?_ _ | refine bl_drew ?_ | refine bl_drewN ?_ _))
        have hbw2 : Below w.heap.size w w2 := ((Chg.of_below hbwa).trans (hch2.mono (S' := [w.heap.size]) (by simp))).below (by simp) (Nat.le_refl _)
        have hMlt := hM2.lt
        have hP0 : PrS l O.flatten w.heap.size w2 (w2.alloc (.cells #[.int .i64 x, .int .i64 y, .int .i64 s] 46)) (.slice (some ⟨w2.heap.size, 0, none⟩) 1 1) [(x, y, s)] :=
          ⟨Own.one_bar (Nat.le_refl _) x y s, ⟨_, _, hM2.alloc _, HM2.out⟩, PartOk.start hmem.out hnS.out, Chg.of_below (bl_alloc bl_refl _)⟩
        clear hput hM hMa hch2 hT hR HM hbwa
        go_wp2
        go_step3
        go_wp2
        refine wp_label ?_
        go_wp2
        clear hput' hBx fBx hlk
        go_loopw [7, 8] (fun p i wr => ∃ (j : Nat) (P : List Bar), i = .int .i64 j ∧ j ≤ P.length ∧ PrS l O.flatten w.heap.size w2 wr p P ∧ Hid (colP l O.flatten (l.length + 1) 0 [(x, y, s)] = colP l O.flatten (l.length + 1 - j) j P)) (fun _ i _ => l.length + 1 - (intOf i).toNat)
        case atStart => exact ⟨0, _, rfl, by simp, hP0, rfl⟩
        case round =>
          clear hP0
          obtain ⟨j, P, rfl, hj, hP, HC⟩ := hrel
          obtain ⟨wj, rfl⟩ : ∃ x, x = wr := ⟨_, rfl⟩
          have hPl := hP.2.2.1.len
          have HPs := Lib.hid hP.2.2.1.sub
          obtain ⟨A2, c2, rfl⟩ := hP.1.shape
          by_cases hjP : j < P.length
          · obtain ⟨A2', c2', e2', _, _, hr2⟩ := hP.1.rd bc_len
            obtain ⟨rfl, rfl⟩ : A2 = A2' ∧ c2 = c2' := by simpa using e2'
            clear e2'
            obtain ⟨b2, off2, rfl, hb2, e0, e1, e2⟩ := hr2.bar hjP
            have hbo := HK.out.ok _ (HPs.out _ (List.getElem_mem hjP))
            have HC2 : Hid (colP l O.flatten (l.length + 1) 0 [(x, y, s)] = colP l O.flatten (l.length + 1 - (j + 1)) (j + 1) (enP l O.flatten P[j] P 2)) := by
              unfold Hid
              rw [HC.out, show l.length + 1 - j = (l.length + 1 - (j + 1)) + 1 by omega, colP_go hjP]
            obtain ⟨⟨px, py, ps⟩, hx⟩ : ∃ z, P[j] = z := ⟨_, rfl⟩
            rw [hx] at e0 e1 e2 hbo HC2
            simp only at e0 e1 e2
            clear hx HC
            obtain ⟨q1, q2, q3⟩ := hbo
            simp only at q1 q2 q3
            go_wp2_with fail
            refine (nends_any _ _ _ (by omega) (by omega) (by omega) _).mono ?_
            rintro e w3 ⟨rfl, hb3⟩
            have hP3 := hP.below hb3
            clear hP hr2 e0 e1 e2 hb2 hb3
            go_wp2
            go_loopw [7, 38] (fun p i wr => ∃ n : Nat, n ≤ 2 ∧ i = .int .i64 n ∧ PrS l O.flatten w.heap.size w2 wr p (enP l O.flatten (px, py, ps) P n)) (fun _ i _ => 2 - (intOf i).toNat)
            case atStart => exact ⟨0, by omega, rfl, hP3⟩
            case round =>
              clear hP3
              obtain ⟨n, hn, rfl, hP⟩ := hrel
              obtain ⟨wn, rfl⟩ : ∃ x, x = wr := ⟨_, rfl⟩
              have hPl3 := hP.2.2.1.len
              have hPl0 := enP_len l O.flatten (px, py, ps) P n
              by_cases hn2 : n < 2
              · obtain ⟨⟨ex, ey⟩, hex⟩ : ∃ z, endK (px, py, ps) n = z := ⟨_, rfl⟩
                have hidx := idx2_at px py ps n hn2 hex
                have HE : Hid (enP l O.flatten (px, py, ps) P (n + 1) = arP l O.flatten (ex, ey) (enP l O.flatten (px, py, ps) P n) 4) := by unfold Hid; rw [enP, hex]
                have hnear : (-300000 ≤ ex ∧ ex ≤ 300000) ∧ (-300000 ≤ ey ∧ ey ≤ 300000) := by
                  obtain rfl | rfl : n = 0 ∨ n = 1 := by omega
                  all_goals (simp only [endK, lowK, uppK, Prod.mk.injEq] at hex; omega)
                clear hex
                obtain ⟨E, hE⟩ : ∃ E, enP l O.flatten (px, py, ps) P n = E := ⟨_, rfl⟩
                rw [hE] at hP HE hPl3 hPl0
                clear hE
                have hK1 := Blk.new wn 32 #[.int .i64 ex, .int .i64 ey]
                have fK1 := hK1.facts
                go_wp2_with fail
                refine (naround_any ex ey (by omega) (by omega) _).mono ?_
                rintro e w4 ⟨rfl, hb4⟩
                have hP4 := (hP.below (bl_alloc bl_refl (.cells #[.int .i64 ex, .int .i64 ey] 32))).below hb4
                clear hP hK1 fK1 hidx hb4
                go_wp2
                go_loopw [7, 43] (fun p i wr => ∃ t : Nat, t ≤ 4 ∧ i = .int .i64 t ∧ PrS l O.flatten w.heap.size w2 wr p (arP l O.flatten (ex, ey) E t)) (fun _ i _ => 4 - (intOf i).toNat)
                case atStart => exact ⟨0, by omega, rfl, hP4⟩
                case round =>
                  clear hP4
                  obtain ⟨t, ht, rfl, hP⟩ := hrel
                  obtain ⟨wt, rfl⟩ : ∃ x, x = wr := ⟨_, rfl⟩
                  by_cases ht4 : t < 4
                  · have hPl5 := hP.2.2.1.len
                    have hwt := hP.2.2.2.size
                    have hbt := hP.bl (w := w) (Nat.le_refl _) hbw2
                    obtain ⟨⟨ax, ay, aq⟩, hax⟩ : ∃ z, arB (ex, ey) t = z := ⟨_, rfl⟩
                    have hidx := idx4_at (ex, ey) t ht4 hax
                    simp only at hidx
                    have HT : Hid (arP l O.flatten (ex, ey) E (t + 1) = tryP l O.flatten (arP l O.flatten (ex, ey) E t) (ax, ay, aq)) := by unfold Hid; rw [arP, hax]
                    clear hax
                    obtain ⟨F, hF⟩ : ∃ F, arP l O.flatten (ex, ey) E t = F := ⟨_, rfl⟩
                    rw [hF] at hP HT hPl5
                    clear hF
                    have hA1 := Blk.new wt 46 #[.int .i64 ax, .int .i64 ay, .int .i64 aq]
                    have hPa := hP.below (bl_alloc bl_refl (.cells #[.int .i64 ax, .int .i64 ay, .int .i64 aq] 46))
                    obtain ⟨wa, hwa⟩ : ∃ X, wt.alloc (.cells #[.int .i64 ax, .int .i64 ay, .int .i64 aq] 46) = X := ⟨_, rfl⟩
                    have hbta : Below w.heap.size w wa := by rw [← hwa]; (repeat (first | exact bl_refl | assumption | (apply bl_then; assumption) | refine bl_alloc ?_ _ | refine bl_drew ?_ | refine bl_drewN ?_ _))
                    go_upto_region 18 with fail
                    rw [hwa] at hA1 hPa
                    have fA1 := hA1.facts
                    have hSl := hS0.below hbta
                    have hlk := (fun (hM : ∃ m c, MapAt bk bV wa w.heap.size m c ∧ MOk m c ∧ ∀ q, mget q m = seenO (O.flatten ++ F) q) => match hM with | ⟨m, c, h1, _, h3⟩ => seen_lk h1 h3 ax ay aq) hPa.2.1
                    obtain ⟨A5, c5, rfl⟩ := hPa.1.shape
                    obtain ⟨q, hq⟩ : ∃ q, decide ((ax, ay, aq) ∈ O.flatten ++ F) = q := ⟨_, rfl⟩
                    rw [hq] at hlk
                    clear hP hwa hidx
                    cases q
                    · have hnq := of_decide_eq_false hq
                      rw [List.mem_append, not_or] at hnq
                      have HN := Lib.hid hnq
                      clear hq hnq
                      have hc := nhas_any l ax ay aq wa hSl HK.out.sorted (by omega)
                      obtain ⟨q, hq⟩ : ∃ q, hasb l (ax, ay, aq) = q := ⟨_, rfl⟩
                      rw [hq] at hc
                      cases q
                      · have HT2 : Hid (arP l O.flatten (ex, ey) E (t + 1) = F) := by
                          unfold Hid; rw [HT.out]; unfold tryP; rw [if_pos (.inr (of_decide_eq_false hq))]
                        clear hq HT
                        go_wp2_with (go_at_call 105; refine hc.mono ?_; rintro e w5 ⟨rfl, hb5⟩)
                        go_roundw
                        case rel => exact ⟨t + 1, by omega, by go_num, (hPa.below hb5).same HT2.out⟩
                        case measure => simp [intOf]; omega
                      · have hml : (ax, ay, aq) ∈ l := of_decide_eq_true hq
                        have HT2 : Hid (arP l O.flatten (ex, ey) E (t + 1) = F ++ [(ax, ay, aq)]) := by
                          unfold Hid; rw [HT.out]; unfold tryP; rw [if_neg (by simp [HN.out.1, HN.out.2, hml])]
                        have HML := Lib.hid hml
                        clear hq HT hml
                        go_wp2_with fail
                        go_at_call 105
                        refine hc.mono ?_
                        rintro e w5 ⟨rfl, hb5⟩
                        have hP5 := hPa.below hb5
                        have hA5 := hA1.below hb5
                        have fA5 := hA5.facts
                        obtain ⟨w6, hput, hO6, hch6, hrlt, hjoin⟩ := hP5.join HN.out.1 HN.out.2 HML.out
                        have hA6 := hA5.chg hch6 (by simp; omega)
                        have fA6 := hA6.facts
                        clear hc hlk fA1 hA1 hPa
                        go_wp2_with (at_builtin; refine wpList_appB1 hO6 rfl _ _ rfl rfl rfl rfl (by omega) (Nat.le_trans hP5.2.2.2.size hch6.size) ?_; intro v7 w7 hO7 hg7; obtain ⟨A7, c7, rfl⟩ := hO7.shape)
                        have hJ := (hjoin _ _ hO7 hg7).same HT2.out
                        simp only [List.length_append, List.length_cons, List.length_nil, Nat.zero_add] at hJ
                        go_roundw
                        case rel => exact ⟨t + 1, by omega, by go_num, hJ⟩
                        case measure => simp [intOf]; omega
                    · have HT2 : Hid (arP l O.flatten (ex, ey) E (t + 1) = F) := by
                        unfold Hid; rw [HT.out]; unfold tryP
                        rw [if_pos (.inl (List.mem_append.1 (of_decide_eq_true hq)))]
                      clear hq HT
                      go_wp2
                      go_roundw
                      case rel => exact ⟨t + 1, by omega, by go_num, hPa.same HT2.out⟩
                      case measure => simp [intOf]; omega
                  · obtain rfl : t = 4 := by omega
                    go_wp2
                    go_roundw
                    case rel => exact ⟨n + 1, by omega, by go_num, hP.same HE.out⟩
                    case measure => simp [intOf]; omega
              · obtain rfl : n = 2 := by omega
                go_wp2
                go_roundw
                case rel => exact ⟨j + 1, _, by go_num, by omega, hP, HC2⟩
                case measure => simp [intOf]; omega
          · obtain rfl : j = P.length := by omega
            have HC3 : Hid (colP l O.flatten (l.length + 1) 0 [(x, y, s)] = P) := by unfold Hid; rw [HC.out, colP_end (by omega)]
            rw [HC3.out] at HD2
            have hO5 := hP.1
            have hch5 := hP.2.2.2
            have hMe := hP.2.1
            clear hP HPs HC HC3
            go_wp2_with fail
            go_at_call 84
            refine (sortB_anyN P _ hO5 (by omega)).mono ?_
            rintro e w8 ⟨rfl, hO8, hg8⟩
            have hch8 := chg_row hch5 hO5 hg8
            have hT8 := hT2.chg1 hch8 (hM2.ne_own hT2)
            have hR8 : RowsAt (w.heap.size + 1) w8 ts O := hR2.map_ fun v L h => h.chg1 hch8 (hM2.ne_own h)
            obtain ⟨m8, c8, hM8, hMo8, hMg8⟩ := hMe
            have hM8' := hM8.grown hg8 (Ne.symm (hM8.ne_own hO5))
            have hbw8 : Below w.heap.size w w8 := hbw2.trans (hch8.below (by simp) hbw2.size)
            have hO8' : OwB (w.heap.size + 1) w8 (slV (A2, P.length, c2)) (srtB P) := hO8.base_mono (by omega)
            have hTl : ts.length ≤ 4096 := by have := hR2.len; omega
            have h8l : w.heap.size + 1 ≤ w8.heap.size := by have := hM8'.lt; omega
            have HMg := Lib.hid hMg8
            clear hMg8 hM8 hg8 hch8 hch5 hO5 hO8 hT2 hR2 HM2 hM2
            go_wp2_with (at_builtin; refine wpList_appR hT8 rfl _ _ rfl rfl rfl rfl (by omega) (by omega) ?_; intro v9 w9 hT9 hg9; obtain ⟨A9, c9, rfl⟩ := hT9.shape)
            have hT8a := hT8.alloc (.cells #[.slice A2 P.length c2] 22)
            have hO8a := hO8'.alloc (.cells #[.slice A2 P.length c2] 22)
            have hR8a : RowsAt (w.heap.size + 1) (w8.alloc (.cells #[.slice A2 P.length c2] 22)) ts O := hR8.map_ fun v L h => h.alloc _
            have hM8a := hM8'.alloc (.cells #[.slice A2 P.length c2] 22)
            have hO9 := hO8a.kept hg9 (hO8a.ne_own hT8a (by decide))
            have hR9 : RowsAt (w.heap.size + 1) w9 (ts ++ [(A2, P.length, c2)]) (O ++ [srtB P]) := (hR8a.map_ fun v L h => h.kept hg9 (h.ne_own hT8a (by decide))).snoc hO9
            have hM9 := hM8a.grown hg9 (Ne.symm (hM8a.ne_own hT8a))
            have hbw9 : Below w.heap.size w w9 := bl_grown hg9 (bl_alloc hbw8 _) (fun k e => by have := (hT8.lt k e).1; omega)
            have hT9' := hT9
            simp only [List.length_append, List.length_cons, List.length_nil, Nat.zero_add] at hT9'
            rw [Exit.noGoto_normal]
            go_wp2
            go_roundw
            case rel => exact ⟨k + 1, by omega, by go_num, ⟨_, hT9', by rw [HD2.out]; exact hR9⟩, ⟨_, _, hM9, hMo8, fun q => by rw [HD2.out]; exact seen_congr HMg.out (fun b => by simp [srtB_mem]) q⟩, hbw9⟩
            case measure => simp [intOf]; omega
      · have HD2 : Hid (prtO l (k + 1) = O) := by unfold Hid; rw [HD.out, if_pos (of_decide_eq_true hq)]
        clear hq HD
        go_wp2
        go_step3
        go_wp2
        rw [Exit.noGoto_exit]
        go_wp2
        go_roundw
        case rel => exact ⟨k + 1, by omega, by go_num, ⟨ts, hT.alloc _, by rw [HD2.out]; exact hR.map_ fun v L h => h.alloc _⟩, ⟨m, cm, hMa, by rw [HD2.out]; exact HM⟩, by (repeat (first | exact bl_refl | assumption | (apply bl_then; assumption) | refine bl_alloc ?_ _ | refine bl_drew ?_ | refine bl_drewN ?_ _))⟩
        case measure => simp [intOf]; omega
    · have hE : Hid (prtO l k = partsL l) := by unfold Hid partsL; rw [show k = l.length by omega]
      rw [hE.out] at hR
      go_wp2
      go_ret
      exact ⟨_, rfl, ⟨ts, hT.base_mono (Nat.le_succ _), hR.map_ fun v L h => h.base_mono (Nat.le_succ _)⟩, hbw⟩
end Go.Proofs.YtpompeancmonbaaGreat

/- Parts and Count of the program, walked. Conditions: the slices read as lists. -/
namespace Go.Proofs.YtpompeancmonbaaGreat
open Go.RowKit Go.ChangeMaps
set_option maxHeartbeats 4000000
set_option maxRecDepth 100000

def RRE (w : World) (Ls : List (List Bar)) (n : Int) (e : Ending) (w' : World) : Prop := ∃ v, e = .returned (.tuple #[v, .int .i64 n]) ∧ OwRR w.heap.size w' v Ls ∧ Below w.heap.size w w'
theorem OwRR.nil_ {base : Nat} {w : World} : OwRR base w (.slice none 0 0) [] := ⟨[], Own.nil_, trivial⟩
theorem OwRR.base_mono {base base' : Nat} {w : World} {v : Value} {Ls : List (List Bar)} (h : OwRR base w v Ls) (hb : base' ≤ base) : OwRR base' w v Ls := by
  obtain ⟨ts, h1, h2⟩ := h
  exact ⟨ts, h1.base_mono hb, h2.map_ fun v L h => h.base_mono hb⟩
theorem OwRR.below {base : Nat} {w w' : World} {v : Value} {Ls : List (List Bar)} (h : OwRR base w v Ls) (hb : Below w.heap.size w w') : OwRR base w' v Ls := by
  obtain ⟨ts, h1, h2⟩ := h
  exact ⟨ts, h1.below hb, h2.map_ fun v L h => h.below hb⟩
theorem OwRR.shape {base : Nat} {w : World} {v : Value} {Ls : List (List Bar)} (h : OwRR base w v Ls) : ∃ A c, v = .slice A Ls.length c := by
  obtain ⟨ts, h1, h2⟩ := h
  obtain ⟨A, c, rfl⟩ := h1.shape
  exact ⟨A, c, by rw [h2.len]⟩
theorem apiParts_any {v : Value} (l : List Bar) (w : World) (h : SlB w v l) : Calls Tryz.prog 23 #[v] w (RRE w (onlyOk (netE l) (partsL l)) (netE l)) := by
  by_cases hE : netE l = 0
  · have hok := netE_ok hE
    have hE' : (netE l != 0) = false := by simp [hE]
    have HS : Hid (onlyOk (netE l) (partsL l) = partsL l ∧ netE l = 0) := by unfold Hid onlyOk; rw [if_pos hE]; exact ⟨rfl, hE⟩
    clear hE
    go_enter Tryz.func23, Tryz.ntmps23
    go_wp2_with (first | (go_at_call 35; refine (nnet_sl l _ h).mono ?_; rintro e w1 ⟨rfl, hb1⟩; (first | replace h := h.st0 hb1 | replace h := h.st1 hb1 | replace h := h.std hb1 | replace h := h.std1 hb1 | replace h := h.st2 hb1 | replace h := h.std2 hb1 | replace h := h.st3 hb1)) | (go_at_call 62; refine (nparts_any l _ h hok).mono ?_; rintro e w2 ⟨v2, rfl, hown2, hb2⟩))
    go_ret2
    exact ⟨_, by rw [HS.out.2]; rfl, by rw [HS.out.1]; exact hown2.base_mono hb1.size, by (repeat (first | exact bl_refl | assumption | (apply bl_then; assumption) | refine bl_alloc ?_ _ | refine bl_drew ?_ | refine bl_drewN ?_ _))⟩
  · have hE' : (netE l != 0) = true := by simpa using hE
    have HS : Hid (onlyOk (netE l) (partsL l) = []) := by unfold Hid onlyOk; rw [if_neg hE]
    clear hE
    go_enter Tryz.func23, Tryz.ntmps23
    go_wp2_with (go_at_call 35; refine (nnet_sl l _ h).mono ?_; rintro e w1 ⟨rfl, hb1⟩; (first | replace h := h.st0 hb1 | replace h := h.st1 hb1 | replace h := h.std hb1 | replace h := h.std1 hb1 | replace h := h.st2 hb1 | replace h := h.std2 hb1 | replace h := h.st3 hb1))
    go_ret2
    exact ⟨_, rfl, by rw [HS.out]; exact OwRR.nil_, by (repeat (first | exact bl_refl | assumption | (apply bl_then; assumption) | refine bl_alloc ?_ _ | refine bl_drew ?_ | refine bl_drewN ?_ _))⟩
/-- a net's numbers, as the program counts them -/
def cntA (l : List Bar) : Array Value := if netE l = 0 then #[.int .i64 (holeK l).length, .int .i64 l.length, .int .i64 (meshLN l l).length, .int .i64 (partsL l).length, .int .i64 ((l.length : Int) - (holeK l).length + (partsL l).length - (meshLN l l).length)] else zer5
theorem apiCount_any {v : Value} (l : List Bar) (w : World) (h : SlB w v l) : Calls Tryz.prog 27 #[v] w (RLEN w (cntA l) (netE l)) := by
  have h0 := h
  have hB := Blk.new w 69 zer5
  by_cases hE : netE l = 0
  · have hok := netE_ok hE
    have hE' : (netE l != 0) = false := by simp [hE]
    have hl1 := hok.len1
    have hkl : (holeK l).length ≤ 20000 := by rw [← kIn_all (l := l) (Nat.le_refl _)]; have := kIn_len l (2 * l.length); omega
    have hml := meshL_len l l
    have hpl : (partsL l).length ≤ l.length := prtO_len l _
    have HS : Hid (cntA l = #[.int .i64 (holeK l).length, .int .i64 l.length, .int .i64 (meshLN l l).length, .int .i64 (partsL l).length, .int .i64 ((l.length : Int) - (holeK l).length + (partsL l).length - (meshLN l l).length)] ∧ netE l = 0) := by
      unfold Hid cntA; rw [if_pos hE]; exact ⟨rfl, hE⟩
    clear hE
    have fB := hB.facts
    have hK1 := fun W (hW : SlB W v l) => nknots_any l W hW hok.ok hl1
    have hM1 := fun W (hW : SlB W v l) => nmeshes_any l W hW hok
    have hP1 := fun W (hW : SlB W v l) => nparts_any l W hW hok
    obtain ⟨kn, hkn⟩ : ∃ n, (holeK l).length = n := ⟨_, rfl⟩
    obtain ⟨ml, hmn⟩ : ∃ n, (meshLN l l).length = n := ⟨_, rfl⟩
    obtain ⟨pn, hpn⟩ : ∃ n, (partsL l).length = n := ⟨_, rfl⟩
    rw [hkn, hmn, hpn] at HS
    rw [hkn] at hkl
    rw [hmn] at hml
    rw [hpn] at hpl
    have HN := Lib.hid (And.intro hkn (And.intro hmn hpn))
    clear hkn hmn hpn
    obtain ⟨A, c, rfl, hlc, hcm, hr⟩ := h
    go_enter Tryz.func27, Tryz.ntmps27
    go_wp2_with fail
    refine (nnet_sl l _ (h0.below (by (repeat (first | exact bl_refl | assumption | (apply bl_then; assumption) | refine bl_alloc ?_ _ | refine bl_drew ?_ | refine bl_drewN ?_ _))))).mono ?_
    rintro e w1 ⟨rfl, hb1⟩
    have hB1 := hB.below hb1
    have hw1 := h0.below (show Below w.heap.size w w1 by (repeat (first | exact bl_refl | assumption | (apply bl_then; assumption) | refine bl_alloc ?_ _ | refine bl_drew ?_ | refine bl_drewN ?_ _)))
    have hbw1 : Below w.heap.size w w1 := by (repeat (first | exact bl_refl | assumption | (apply bl_then; assumption) | refine bl_alloc ?_ _ | refine bl_drew ?_ | refine bl_drewN ?_ _))
    have fB1 := hB1.facts
    clear fB hb1 hB
    have hb := hbw1
    go_wp2_with fail
    go_at_call 69
    refine (hK1 _ hw1).mono ?_
    rintro e w2 ⟨v2, rfl, hO2, hb2⟩
    obtain ⟨A2, c2, rfl⟩ := hO2.shape
    rw [HN.out.1]
    have hw2 := hw1.below hb2
    have hB2 := hB1.below hb2
    go_wp2_with fail
    go_at_call 70
    refine (hM1 _ hw2).mono ?_
    rintro e w3 ⟨v3, rfl, hO3, hb3⟩
    obtain ⟨A3, c3, rfl⟩ := hO3.shape
    rw [HN.out.2.1]
    have hw3 := hw2.below hb3
    have hB3 := hB2.below hb3
    go_wp2_with fail
    go_at_call 62
    refine (hP1 _ hw3).mono ?_
    rintro e w4 ⟨v4, rfl, hO4, hb4⟩
    obtain ⟨A4, c4, rfl⟩ := hO4.shape
    rw [HN.out.2.2]
    have hB4 := hB3.below hb4
    have hbw4 : Below w.heap.size w w4 := by (repeat (first | exact bl_refl | assumption | (apply bl_then; assumption) | refine bl_alloc ?_ _ | refine bl_drew ?_ | refine bl_drewN ?_ _))
    clear fB1 hb2 hb3 hb4 hO2 hO3 hO4
    go_wp2_with (refine wpList_store_blk (hB4.alloc _) rfl _ _ _ rfl rfl rfl (by rfl) (by kernel_rfl) (by kernel_rfl) ?_; intro w5 hR5 hc5; have fR5 := hR5.facts)
    have hb5 : Below w.heap.size w w5 := ((Chg.of_below (bl_alloc hbw4 _)).trans (hc5.mono (S' := [w.heap.size]) (by simp))).below (by simp) (Nat.le_refl _)
    refine bodyPost_ret (v := .tuple #[.agg #[.int .i64 kn, .int .i64 l.length, .int .i64 ml, .int .i64 pn, .int .i64 ((l.length : Int) - kn + pn - ml)], .int .i64 0]) (by simp [results, Tryz.results27, go_sem, fR5]) rfl ?_
    exact ⟨by rw [HS.out.1, HS.out.2], hb5⟩
  · have hE' : (netE l != 0) = true := by simpa using hE
    have HS : Hid (cntA l = zer5) := by unfold Hid cntA; rw [if_neg hE]
    clear hE
    go_enter Tryz.func27, Tryz.ntmps27
    go_wp2_with fail
    refine (nnet_sl l _ (h0.below (by (repeat (first | exact bl_refl | assumption | (apply bl_then; assumption) | refine bl_alloc ?_ _ | refine bl_drew ?_ | refine bl_drewN ?_ _))))).mono ?_
    rintro e w1 ⟨rfl, hb1⟩
    have hB1 := hB.below hb1
    have hbw1 : Below w.heap.size w w1 := by (repeat (first | exact bl_refl | assumption | (apply bl_then; assumption) | refine bl_alloc ?_ _ | refine bl_drew ?_ | refine bl_drewN ?_ _))
    go_wp2_with (refine wpList_store_blk hB1 rfl _ _ _ rfl rfl rfl (by rfl) (by kernel_rfl) (by kernel_rfl) ?_; intro w4 hR4 hc4; have fR4 := hR4.facts)
    have hb4 : Below w.heap.size w w4 := ((Chg.of_below hbw1).trans (hc4.mono (S' := [w.heap.size]) (by simp))).below (by simp) (Nat.le_refl _)
    refine bodyPost_ret (v := .tuple #[.agg #[.int .i64 0, .int .i64 0, .int .i64 0, .int .i64 0, .int .i64 0], .int .i64 (netE l)]) (by simp [results, Tryz.results27, go_sem, fR4]) rfl ?_
    exact ⟨by rw [HS.out]; rfl, hb4⟩
end Go.Proofs.YtpompeancmonbaaGreat

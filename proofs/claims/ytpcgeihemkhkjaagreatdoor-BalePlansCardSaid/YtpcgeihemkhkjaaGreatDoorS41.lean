/- The reference's lists of panels, walked. Conditions: bounds. -/
import Derived.Test.YtpcgeihemkhkjaaGreatDoorS15
import Derived.Test.YtpcgeihemkhkjaaGreatDoorS40
import Derived.Test.YtpcgeihemkhkjaaGreatDoorS22
import Derived.Test.YtpcgeihemkhkjaaGreatDoorS20
import Derived.Test.YtpcgeihemkhkjaaGreatDoorS27
import Derived.Test.YtpcgeihemkhkjaaGreatDoorS01
namespace Go.Proofs.YtpcgeihemkhkjaaGreatDoor
open Go.RowKit Go.ChangeMaps
set_option maxHeartbeats 4000000
set_option maxRecDepth 100000
attribute [local go_sem] Oper.semAt_some
def Zrg (l : List Pan) (k n : Int) : Bool := !((decide (k < (l.length : Int)) && decide (l.length ≤ 16)) || decide (18 < l.length)) && l.all fun p => Zdr p n
theorem shortPs_in {l : List Pan} {k n : Int} (h : Zrg l k n = true) : l.length ≤ 18 ∧ ((l.length : Int) ≤ k ∨ 16 < l.length) ∧ ∀ p ∈ l, Zdr p n = true := by
 unfold Zrg at h
 simp only [Bool.and_eq_true, Bool.not_eq_true', Bool.or_eq_false_iff, Bool.and_eq_false_iff, decide_eq_false_iff_not, List.all_eq_true] at h
 obtain ⟨⟨h1, h2⟩, h3⟩ := h
 exact ⟨by omega, by omega, h3⟩
theorem Zrh {l : List Pan} {n : Int} {k : Nat} (hk : k < l.length) : ((l.drop k).all fun p => Zdr p n) = (Zdr l[k] n && (l.drop (k + 1)).all fun p => Zdr p n) := by
 rw [List.drop_eq_getElem_cons hk, List.all_cons]
theorem Zri {v : Value} (l : List Pan) (k n : Int) (w : World) (h : SlP w v l) (hnm : ∀ p ∈ l, p.1.length ≤ maxLen) :
    Calls Tryz.prog 72 #[v, .int .i64 k, .int .i64 n] w (RV w (.bool (Zrg l k n))) := by
  obtain ⟨xs, ⟨A, c, rfl, hlc, hcm, hr⟩, hx⟩ := h; have HLN := Lib.hid hx.len
  have hl1 : xs.length ≤ l.length := Nat.le_of_eq HLN.out
  have hl2 : l.length ≤ xs.length := Nat.le_of_eq HLN.out.symm
  have hHN := Lib.hid hnm
  have HS : Hid (Zrg l k n = (!((decide (k < (l.length : Int)) && decide (l.length ≤ 16)) || decide (18 < l.length)) && l.all fun p => Zdr p n)) := rfl
  have hxm : xs.length ≤ maxLen := Nat.le_trans hlc hcm
  unfold maxLen at hxm; clear hnm; go_enter Tryz.func72, Tryz.ntmps72
  go_upto_region 1 with fail; go_cut [21] from 8 to 21 (fun s21 wx => s21 = .bool ((decide (k < (l.length : Int)) && decide (l.length ≤ 16)) || decide (18 < l.length)) ∧ Below w.heap.size w wx)
  case first =>
    by_cases h1 : k < (xs.length : Int)
    · by_cases h2 : xs.length ≤ 16
      · have HQ : Hid (((decide (k < (l.length : Int)) && decide (l.length ≤ 16)) || decide (18 < l.length)) = true) := by
          unfold Hid; rw [decide_eq_true (by omega), decide_eq_true (by omega)]; rfl
        have t1 : (k < (xs.length : Int)) = True := eq_true h1
        have t2 : ((xs.length : Int) ≤ 16) = True := eq_true (by omega)
        clear h1 h2; go_wp2_with fail
        all_goals
          go_meet; case rel => exact ⟨by rw [HQ.out], by (repeat first|exact J0|assumption|(apply J1;assumption)|apply J2|apply J3|apply J4)⟩
      · by_cases h3 : 18 < xs.length
        · have HQ : Hid (((decide (k < (l.length : Int)) && decide (l.length ≤ 16)) || decide (18 < l.length)) = true) := by
            unfold Hid; rw [decide_eq_true (show 18 < l.length by omega), Bool.or_true]
          have t1 : (k < (xs.length : Int)) = True := eq_true h1
          have t2 : ((xs.length : Int) ≤ 16) = False := eq_false (by omega)
          have t3 : (18 < (xs.length : Int)) = True := eq_true (by omega)
          clear h1 h2 h3; go_wp2_with fail
          all_goals
            go_meet; case rel => exact ⟨by rw [HQ.out], by (repeat first|exact J0|assumption|(apply J1;assumption)|apply J2|apply J3|apply J4)⟩
        · have HQ : Hid (((decide (k < (l.length : Int)) && decide (l.length ≤ 16)) || decide (18 < l.length)) = false) := by
            unfold Hid; rw [decide_eq_false (show ¬ l.length ≤ 16 by omega), decide_eq_false (show ¬ 18 < l.length by omega), Bool.and_false]; rfl
          have t1 : (k < (xs.length : Int)) = True := eq_true h1
          have t2 : ((xs.length : Int) ≤ 16) = False := eq_false (by omega)
          have t3 : (18 < (xs.length : Int)) = False := eq_false (by omega)
          clear h1 h2 h3; go_wp2_with fail
          all_goals
            go_meet; case rel => exact ⟨by rw [HQ.out], by (repeat first|exact J0|assumption|(apply J1;assumption)|apply J2|apply J3|apply J4)⟩
    · by_cases h3 : 18 < xs.length
      · have HQ : Hid (((decide (k < (l.length : Int)) && decide (l.length ≤ 16)) || decide (18 < l.length)) = true) := by
          unfold Hid; rw [decide_eq_true (show 18 < l.length by omega), Bool.or_true]
        have t1 : (k < (xs.length : Int)) = False := eq_false h1
        have t3 : (18 < (xs.length : Int)) = True := eq_true (by omega)
        clear h1 h3; go_wp2_with fail
        all_goals
          go_meet; case rel => exact ⟨by rw [HQ.out], by (repeat first|exact J0|assumption|(apply J1;assumption)|apply J2|apply J3|apply J4)⟩
      · have HQ : Hid (((decide (k < (l.length : Int)) && decide (l.length ≤ 16)) || decide (18 < l.length)) = false) := by
          unfold Hid; rw [decide_eq_false (show ¬ k < (l.length : Int) by omega), decide_eq_false (show ¬ 18 < l.length by omega), Bool.false_and]; rfl
        have t1 : (k < (xs.length : Int)) = False := eq_false h1
        have t3 : (18 < (xs.length : Int)) = False := eq_false (by omega)
        clear h1 h3; go_wp2_with fail
        all_goals
          go_meet; case rel => exact ⟨by rw [HQ.out], by (repeat first|exact J0|assumption|(apply J1;assumption)|apply J2|apply J3|apply J4)⟩
  case rest =>
    obtain ⟨rfl, hbc⟩ := hcut; obtain ⟨q, hq⟩ : ∃ q, ((decide (k < (l.length : Int)) && decide (l.length ≤ 16)) || decide (18 < l.length)) = q := ⟨_, rfl⟩
    rw [hq] at HS; rw [hq]; clear hq; cases q
    · have HS2 : Hid (Zrg l k n = (l.drop 0).all fun p => Zdr p n) := HS
      clear HS; go_wp2; go_loopw [7] (fun s7 wr => ∃ j : Nat, j ≤ xs.length ∧ s7 = .int .i64 j ∧ Hid (Zrg l k n = (l.drop j).all fun p => Zdr p n) ∧ Below w.heap.size w wr) (fun i _ => xs.length - (intOf i).toNat)
      case atStart => exact ⟨0, Nat.zero_le _, rfl, HS2, hbc⟩
      case round =>
        clear HS2 hbc; obtain ⟨j, hj, rfl, H, hbw⟩ := hrel; obtain ⟨wo, rfl⟩ : ∃ x, x = wr := ⟨_, rfl⟩
        by_cases hlt : j < xs.length
        · have hkl : j < l.length := by omega
          have hp := hx.get (List.getElem?_eq_getElem hlt) (List.getElem?_eq_getElem hkl)
          have hnk := hHN.out _ (List.getElem_mem hkl)
          have HF := Lib.hid (Zrh (n := n) hkl)
          obtain ⟨b, off, rfl, hb, e0, e1, e2, e3⟩ := (hr.below hbw).pan (List.getElem?_eq_getElem hlt)
          obtain ⟨p, hpe⟩ : ∃ p, l[j] = p := ⟨_, rfl⟩
          rw [hpe] at hp hnk HF; obtain ⟨x, hxe⟩ : ∃ x, xs[j] = x := ⟨_, rfl⟩
          rw [hxe] at hp e0 e1 e2 e3; have hsh := fun W (hb : Below w.heap.size w W) => Zdt p n W hnk (hp.left.below hb) (hp.right.below hb)
          rw [← hp.nm, ← hp.wd] at hsh; obtain ⟨q, hq⟩ : ∃ q, Zdr p n = q := ⟨_, rfl⟩
          rw [hq] at hsh HF; obtain ⟨⟨n0, n1, ⟨a0, a1, a2⟩, ⟨b0, b1, b2⟩⟩, hxx⟩ : ∃ z, x = z := ⟨_, rfl⟩
          rw [hxx] at e0 e1 e2 e3 hsh; simp only [sV, slV] at e0 e1 e2 e3 hsh; clear hp hnk hxx hq hpe hxe; cases q
          · have HE : Hid (Zrg l k n = false) := by unfold Hid; rw [H.out, HF.out]; rfl
            go_wp2_with fail; refine (hsh _ hbw).mono ?_
            rintro e w2 ⟨rfl, hb2⟩; go_wp2; go_ret; exact ⟨by rw [HE.out]; rfl, Z08 hb2 hbw⟩
          · have HE : Hid (Zrg l k n = (l.drop (j + 1)).all fun p => Zdr p n) := by unfold Hid; rw [H.out, HF.out]; rfl
            go_wp2_with fail; refine (hsh _ hbw).mono ?_
            rintro e w2 ⟨rfl, hb2⟩; go_wp2; go_roundw; case rel => exact ⟨j + 1, by omega, by go_num, HE, Z08 hb2 hbw⟩
            case measure => simp [intOf]; omega
        · have HE : Hid (Zrg l k n = true) := by unfold Hid; rw [H.out, List.drop_of_length_le (by omega)]; rfl
          go_wp2; go_ret; exact ⟨by rw [HE.out]; rfl, hbw⟩
    · have HE : Hid (Zrg l k n = false) := HS
      go_wp2; go_ret; exact ⟨by rw [HE.out]; rfl, hbc⟩
theorem Zrj (w : World) : Calls Tryz.prog 52 #[] w (RV w (.agg #[.string ⟨#[98]⟩, .int .i64 2, .int .i64 9])) := by
 have hX := Blk.new w 27 #[.string ⟨#[]⟩, .int .i64 0, .int .i64 0]
 have hY := Blk.new w 27 #[.string ⟨#[98]⟩, .int .i64 2, .int .i64 9]
 have fX := hX.facts
 have fY := hY.facts
 go_enter Tryz.func52, Tryz.ntmps52
 go_wp2
 refine bodyPost_ret (v := .agg #[.string ⟨#[98]⟩, .int .i64 2, .int .i64 9]) (by simp [results, Tryz.results52, go_sem, fY]) rfl ?_
 exact ⟨rfl, by (repeat first|exact J0|assumption|(apply J1;assumption)|apply J2|apply J3|apply J4)⟩
theorem l5short_any {v : Value} (l : List Pan) (k : Int) (w : World) (h : SlP w v l) (hnm : ∀ p ∈ l, p.1.length ≤ maxLen) : Calls Tryz.prog 19 #[v, .int .i64 k] w (RV w (.bool (Zrg l k 8))) := by
 have hc := Zri l k 8 w h hnm
 obtain ⟨xs, ⟨A, c, rfl, _, _, _⟩, _⟩ := h
 go_enter Tryz.func19, Tryz.ntmps19
 go_wp2_with (go_at_call 72; refine hc.mono ?_; rintro e w1 ⟨rfl, hb1⟩)
 go_ret
 exact ⟨rfl, hb1⟩
end Go.Proofs.YtpcgeihemkhkjaaGreatDoor
namespace Go.Proofs.YtpcgeihemkhkjaaGreatDoor
open Go.RowKit Go.ChangeMaps
set_option maxHeartbeats 4000000
set_option maxRecDepth 100000
section
variable {P : Program} {ops : Array Oper} {Q : Exit → Act → World → Prop} {md : Region.Mode}
theorem Zrk {C C' : World → Prop} {kp : Nat → Bool} (hC : ∀ w, C' w → C w) : ∀ (f : Nat) (listed : Array Bool) (a : Act) (w : World), Z0d P md ops Q C' kp f listed a w → Z0d P md ops Q C kp f listed a w
 | 0, _, _, _, h => h
 | f + 1, _, _, _, h => ⟨h.1, fun i hi => wpOp_mono (fun a' w' h' => ⟨fun e => hC w' (h'.1 e), Zrk hC f _ a' w' h'.2⟩) (h.2 i hi)⟩
abbrev Now (w : World) : World → Prop := fun w' => ∃ g : Bel w.heap.size w, w' = g.val
theorem Now.sub {w w' : World} (hb : Below w.heap.size w w') : ∀ v, Now w' v → Now w v := fun v ⟨g, e⟩ => by
 subst e
 exact Bel.ex (Z08 g.below hb)
def Zrl (P : Program) (ops : Array Oper) (Q : Exit → Act → World → Prop) (post : List Oper) : List (Oper × Bool) → Act → World → Prop
 | [], a, w => wpList P ops Q post a w
 | (o, t) :: r, a, w =>
  if t = true then (if Region.wanted o (yielded ops a.tmps) then o.quiet P a (Now w) (fun a' => Zrl P ops Q post r a' w) else Zrl P ops Q post r (a.put o.dst undef) w)
  else if Region.wanted o (yielded ops a.tmps) then o.wp P a w (fun a' w' => Below w.heap.size w w' ∧ Zrl P ops Q post r a' w') Q else Zrl P ops Q post r (a.put o.dst undef) w
theorem Zrm {post : List Nat} (hs : Region.noSelect ops = true) (hQ : ∀ d c a v w, Q (.panic c) (Act.put a d v) w → Q (.panic c) a w) :
  ∀ (mid : List (Nat × Bool)) (listed : Array Bool) (a : Act) (w : World), Z0g md ops listed → Z0r md ops post mid listed = true →
  Zrl P ops Q (post.map fun i => ops.getD i default) (mid.map fun i => (ops.getD i.1 default, i.2)) a w → Z0d P md ops Q (Now w) (fun j => !post.contains j) (mid.length + post.length) listed a w
 | [], listed, a, w, _, hB, h => by
  rw [List.length_nil, Nat.zero_add]; exact Z0t post listed a w (fun i hi => by simp [hi]) hB h
 | (i, t) :: r, listed, a, w, hcl, hB, h => by
  rw [List.length_cons, show r.length + 1 + post.length = (r.length + post.length) + 1 by omega]
  simp only [Z0r, Bool.and_eq_true] at hB; cases t with
  | true =>
   simp only [if_true] at hB; simp only [List.map_cons, Zrl, if_true] at h
   exact Z0u (post := post) hs hQ (Bel.ex Z03) (o := ops.getD i default) rfl hcl hB.1 (fun a' => Zrl P ops Q (post.map fun i => ops.getD i default) (r.map fun i => (ops.getD i.1 default, i.2)) a' w)
    (fun v h' => Zrm hs hQ r _ _ w (hcl.set (Z0v hB.1)) hB.2 h') h
  | false =>
   simp only [Bool.false_eq_true, if_false, decide_eq_true_eq] at hB; refine ⟨fun h0 => (by rw [hB.1] at h0; cases h0), fun j hj => ?_⟩
   obtain ⟨_, o, ho, _⟩ := mem_ready.1 hj
   have hj' := hj
   rw [hB.1] at hj; obtain rfl : j = i := by simpa using hj
   have hg : ops.getD j default = o := by simp [ho]
   simp only [List.map_cons, Zrl, Bool.false_eq_true, if_false, hg] at h; unfold wpOp; simp only [ho]; split
   ·rename_i hw
    rw [if_pos hw] at h; exact .inl (Oper.wp_mono (fun a' w' h' => ⟨fun _ => Bel.ex h'.1, Zrk (Now.sub h'.1) _ _ a' w' (Zrm hs hQ r _ a' w' (hcl.set hj') hB.2 h'.2)⟩) h)
   ·rename_i hw
    rw [if_neg hw] at h; exact ⟨fun _ => Bel.ex Z03, Zrm hs hQ r _ _ w (hcl.set hj') hB.2 h⟩
theorem Zrn {mid : List (Nat × Bool)} {post : List Nat} (hs : Region.noSelect ops = true) (hQ : ∀ d c a v w, Q (.panic c) (Act.put a d v) w → Q (.panic c) a w) {w : World} :
  ∀ (pre : List Nat) (listed : Array Bool) (a : Act), Z0g md ops listed → Z0s md ops mid post pre listed = true →
  wpQuiet P ops (Now w) (fun a' => Zrl P ops Q (post.map fun i => ops.getD i default) (mid.map fun i => (ops.getD i.1 default, i.2)) a' w.drew) (pre.map fun i => ops.getD i default) a →
  Z0d P md ops Q (Now w) (fun j => !post.contains j) (pre.length + (mid.length + post.length)) listed a w.drew
 | [], listed, a, hcl, hB, h => by
  rw [List.length_nil, Nat.zero_add]; exact Zrk (Now.sub (Z05 Z03)) _ _ _ _ (Zrm hs hQ mid listed a w.drew hcl hB h)
 | i :: r, listed, a, hcl, hB, h => by
  rw [List.length_cons, show r.length + 1 + (mid.length + post.length) = (r.length + (mid.length + post.length)) + 1 by omega]
  simp only [Z0s, Bool.and_eq_true] at hB; simp only [List.map_cons] at h; unfold wpQuiet at h
  exact Z0u (post := post) hs hQ (Bel.ex (Z05 Z03)) (o := ops.getD i default) rfl hcl hB.1 (fun a' => wpQuiet P ops (Now w) (fun a' => Zrl P ops Q (post.map fun i => ops.getD i default) (mid.map fun i => (ops.getD i.1 default, i.2)) a' w.drew) (r.map fun i => ops.getD i default) a')
   (fun v h' => Zrn hs hQ r _ _ (hcl.set (Z0v hB.1)) hB.2 h') h
theorem Zro {id : Nat} {a : Act} {w : World} {l : List Oper} (pre : List Nat) (mid : List (Nat × Bool)) (post : List Nat) (hm : P.follows .mixedOrders = true) (hB : ordB .any l.toArray pre mid post = true)
  (hQ : ∀ d c a v w, Q (.panic c) (Act.put a d v) w → Q (.panic c) a w)
  (h : wpQuiet P l.toArray (fun w' => ∃ g : Bel w.heap.size w, w' = g.val) (fun a' => Zrl P l.toArray Q (post.map fun i => l.getD i default) (mid.map fun i => (l.getD i.1 default, i.2)) a' w.drew) (pre.map fun i => l.getD i default) a) :
  (Code.region id l.toArray true).wp P Q a w := by
 simp only [ordB, Bool.and_eq_true, decide_eq_true_eq] at hB
 obtain ⟨⟨hs, hn⟩, hB'⟩ := hB
 refine wp_region_any hm (Z0e (C := Now w) (kp := fun j => !post.contains j) _ _ _ _ ?_)
 rw [hn, Nat.add_assoc]
 refine Zrn hs hQ pre _ a (Z0g.start _) (by simpa [hn, Nat.add_assoc] using hB') ?_
 have e : ∀ (xs : List Nat), (xs.map fun i => l.toArray.getD i default) = xs.map fun i => l.getD i default := fun xs => List.map_congr_left fun i _ => by simp [Array.getD_eq_getD_getElem?, List.getD_eq_getElem?_getD]
 have e2 : (mid.map fun i => (l.toArray.getD i.1 default, i.2)) = mid.map fun i => (l.getD i.1 default, i.2) := List.map_congr_left fun i _ => by simp [Array.getD_eq_getD_getElem?, List.getD_eq_getElem?_getD]
 rw [e, e, e2]
 exact h
theorem Zrp {post : List Oper} {a : Act} {w : World} (h : wpList P ops Q post a w) : Zrl P ops Q post [] a w := h
theorem Zrq {post : List Oper} {o : Oper} {r : List (Oper × Bool)} {a : Act} {w : World} (hw : Region.wanted o (yielded ops a.tmps) = true)
  (h : ∀ K : Act → World → Prop, (∀ a w', Below w.heap.size w w' → Zrl P ops Q post r a w' → K a w') → o.wp P a w K Q) : Zrl P ops Q post ((o, false) :: r) a w := by
 have := h (fun a w' => Below w.heap.size w w' ∧ Zrl P ops Q post r a w') (fun a w h1 h2 => ⟨h1, h2⟩)
 simp only [Zrl, Bool.false_eq_true, if_false, hw, if_true]
 exact this
theorem Zrr {post : List Oper} {o : Oper} {r : List (Oper × Bool)} {a : Act} {w : World} (hw : Region.wanted o (yielded ops a.tmps) = true)
  (h : ∀ K : Act → Prop, (∀ a, Zrl P ops Q post r a w → K a) → o.quiet P a (fun w' => ∃ g : Bel w.heap.size w, w' = g.val) K) : Zrl P ops Q post ((o, true) :: r) a w := by
 simp only [Zrl, if_true, hw]
 exact h _ fun a h => h
end
attribute [irreducible] Zrl
end Go.Proofs.YtpcgeihemkhkjaaGreatDoor

/- An append and where it lies; a range over the lines of a string; Parse, plain. Conditions: none. -/
import Derived.Test.YtkkefahobjlagaaGreatDoorQ15
import Derived.Test.YtkkefahobjlagaaGreatDoorQ07
import Derived.Maps.AppendAt
namespace Go.Proofs.YtkkefahobjlagaaGreatDoor
open Go.RowKit Go.ChangeMaps
set_option maxHeartbeats 4000000
set_option maxRecDepth 100000
attribute [local go_sem] Oper.semAt_some
section
variable {F : Fence} {n : Nat} {P : Program} {ops : Array Oper} {Q : Exit → Act → World → Prop}
theorem wpIn_region_ordm {id : Nat} {a : Act} {w : World} {l : List Oper} (B : Nat) (p : World → Prop) (pre : List Nat) (mid : List (Nat × Bool)) (post : List Nat) (hF : ∀ f, F.fn f) (hnd : noDefer l.toArray = true) (hm : P.follows .mixedOrders = true) (hB : ordB .any l.toArray pre mid post = true)
  (hQ : ∀ d c a v w, Q (.panic c) (Act.put a d v) w → Q (.panic c) a w) (hp : p w.drew)
  (h : wpQuiet P l.toArray (fun w' => ∃ g : BelM B w p, w' = g.val) (fun a' => wpMidI F n P l.toArray Q (fun w' => ∃ g : BelM B w p, w' = g.val) (post.map fun i => l.getD i default) (mid.map fun i => (l.getD i.1 default, i.2)) a' w.drew) (pre.map fun i => l.getD i default) a) :
  (Code.region id l.toArray true).wpIn F n P Q a w := by
 simp only [ordB, Bool.and_eq_true, decide_eq_true_eq] at hB
 obtain ⟨⟨hs, hn⟩, hB'⟩ := hB
 refine wpIn_region_any hm (wpAnyIn_of_GI (C := fun w' => ∃ g : BelM B w p, w' = g.val) (kp := fun j => !post.contains j) _ _ _ _ ?_)
 rw [hn, Nat.add_assoc]
 refine wpAnyGI_pre hF hnd hs hQ (BelM.ex (Below.refl B w).drew hp) pre _ a (Closed.start _) (by simpa [hn, Nat.add_assoc] using hB') ?_
 have e : ∀ (xs : List Nat), (xs.map fun i => l.toArray.getD i default) = xs.map fun i => l.getD i default := fun xs => List.map_congr_left fun i _ => by simp [Array.getD_eq_getD_getElem?, List.getD_eq_getElem?_getD]
 have e2 : (mid.map fun i => (l.toArray.getD i.1 default, i.2)) = mid.map fun i => (l.getD i.1 default, i.2) := List.map_congr_left fun i _ => by simp [Array.getD_eq_getD_getElem?, List.getD_eq_getElem?_getD]
 rw [e, e, e2]
 exact h
unseal wpMidI in
theorem wpMidI_runm {B : Nat} {p : World → Prop} {w0 : World} {post : List Oper} {o : Oper} {r : List (Oper × Bool)} {a : Act} {w : World} (hw : Region.wanted o (yielded ops a.tmps) = true)
  (h : ∀ K : Act → World → Prop, (∀ a w', Below B w0 w' → p w' → wpMidI F n P ops Q (fun w' => ∃ g : BelM B w0 p, w' = g.val) post r a w' → K a w') → o.wpIn F n P a w K Q) :
  wpMidI F n P ops Q (fun w' => ∃ g : BelM B w0 p, w' = g.val) post ((o, false) :: r) a w := by
 have := h (fun a w' => (∃ g : BelM B w0 p, w' = g.val) ∧ wpMidI F n P ops Q (fun w' => ∃ g : BelM B w0 p, w' = g.val) post r a w') (fun a w h1 h2 h3 => ⟨BelM.ex h1 h2, h3⟩)
 simp only [wpMidI, Bool.false_eq_true, if_false, hw, if_true]
 exact this
end
theorem KpL.trans {B : Nat} {W1 W2 W3 : World} (h : KpL B W1 W2) (h' : KpL B W2 W3) : KpL B W1 W3 := fun v hv => h' v (h v hv)
theorem KpL.put {B D : Nat} {W : World} {o : Obj} (h : B ≠ D) : KpL B W (W.putObj D o) := fun _ hv => (World.putObj_heap_other h).trans hv
theorem wpIn_range_lines {n : Nat} {g : Operand} {p d : Nat} {assign body : Code} {Q : Exit → Act → World → Prop} {a : Act} {w : World} {D B : Nat} {s : Str} (hs : s.length ≤ 1000000) (hD : w.heap.size = D) (hn : 2 ≤ n)
  (hg : a.eval g = .func (.func 162) #[] #[.pointer (some ⟨B, 0, none⟩)]) (hB : Blk w B 9 #[sV s]) {I : List Str → World → Prop} {Ix : Code → List Str → World → Prop} (hI : OwnFrom D I) (hIx : ∀ c, OwnFrom D (Ix c))
  (hIB : ∀ xs W W', I xs W → Chg [B] W W' → I xs W') (h0 : I [] w)
  (hassign : ∀ (x : Str) (W : World) (K : Act → World → Prop), K { tmps := (a.tmps.setIfInBounds p (sV x)).setIfInBounds d (sV x), defers := [] } W → assign.wpIn (Fence.wide.inRound (D + 1)) (n - 1 - 1) Tryz.prog (Exit.then K (fun _ _ _ => False)) { tmps := a.tmps.setIfInBounds p (sV x), defers := [] } W)
  (hbody : ∀ (pre : List Str) (x : Str) (r : List Str) (W : World), linesL s = pre ++ x :: r → I pre W → body.wpIn (Fence.wide.inRound (D + 1)) (n - 1 - 1) Tryz.prog (ownPostG D (KpL B) I Ix (pre ++ [x]) W) { tmps := (a.tmps.setIfInBounds p (sV x)).setIfInBounds d (sV x), defers := [] } W)
  (hdone : ∀ (W : World), I (linesL s) W → W.heap[D]? = some (.deferred (some [])) → Q .normal { a with defers := { target := .collected D, args := #[] } :: a.defers } W)
  (hstop : ∀ (c : Code) (pre : List Str) (W : World), Ix c pre W → W.heap[D]? = some (.deferred (some [])) → c.wpIn Fence.wide n Tryz.prog Q { a with defers := { target := .collected D, args := #[] } :: a.defers } W) :
  (Code.rangeFunc g #[p] assign body).wpIn Fence.wide n Tryz.prog Q a w := by
 have hlt : B < D := by have := hB.lt; omega
 refine wpIn_range_cell (Kp := KpL B) (I := I) (Ix := Ix) (encs := encS) (S := fun xs => xs = linesL s) (Pm := fun pre x _ => ∃ r, linesL s = pre ++ x :: r) hD rfl (by omega) hg trivial (enters_of Tryz.func162 (by kernel_rfl) rfl) (fun _ => rfl) hI hIx (fun h h' => h.trans h') (fun W o => KpL.put (by omega)) h0
  (fun x => { tmps := (a.tmps.setIfInBounds p (sV x)).setIfInBounds d (sV x), defers := [] }) (fun x W K hK => ?_) (fun _ _ _ _ h _ => h) (fun pre x W hi hp => ?_) (fun rec W1 hb hs2 hi hR hY => ?_) (fun xs W hx hi hd => ?_) hstop
 ·have : (#[p].zip (encS x)).foldl (fun t (p, v) => t.setIfInBounds p v) a.tmps = a.tmps.setIfInBounds p (sV x) := by simp [encS]
  rw [this]
  exact hassign x W K hK
 ·obtain ⟨r, hr⟩ := hp
  exact hbody pre x r W hr hi
 ·exact lines_seq (n - 1) (by omega) hs hI hIB (hB.below (hD ▸ hb)) hR hi fun pre x W hi hp hR => hY pre x W hi hp hR
 ·subst hx
  exact hdone W hi hd
instance {B : Nat} {w : World} : Nonempty (BelM B w fun _ => True) := ⟨⟨w, Below.refl _ _, trivial⟩⟩
def sideOk (l : List Edg) : Prop := (stpL l).length ≤ 512 ∧ l.length ≤ 100000 ∧ ∀ e ∈ l, 0 ≤ e.2.1 ∧ e.2.1 ≤ 64 ∧ e.1.length ≤ 64
theorem outline_any {vL vR : Value} (p : Pan) (right : Bool) (w : World) (hL : SlE w vL p.2.2.1) (hR : SlE w vR p.2.2.2) (hw : -1000 ≤ p.2.1 ∧ p.2.1 ≤ 1000) (hs : sideOk (sideP p right)) :
  Calls Tryz.prog 64 #[.agg #[sV p.1, .int .i64 p.2.1, vL, vR], .bool right] w (RK w (outP p right)) := by
 obtain ⟨nm, wd, L, R⟩ := p
 simp only at hL hR hw
 obtain ⟨AL, cL, rfl, hlL, hmL, hrL⟩ := hL
 obtain ⟨AR, cR, rfl, hlR, hmR, hrR⟩ := hR
 unfold sV
 have hP := (Blk.new w 30 #[.string ⟨nm.toArray⟩, .int .i64 wd, .slice AL L.length cL, .slice AR R.length cR]).alloc (.cells #[.bool right] 4)
 have hQ := Blk.new1 w (.cells #[.string ⟨nm.toArray⟩, .int .i64 wd, .slice AL L.length cL, .slice AR R.length cR] 30) 4 #[.bool right]
 refine (callsIn_wide (n := 6)).1 ?_
 refine callsIn_of_wp_marks Tryz.func64 rfl trivial ?_ rfl
 simp only [Tryz.ntmps64, List.size_toArray, List.length_cons, List.length_nil, Nat.reduceAdd, Nat.reduceSub, Array.replicate_succ, Array.replicate_zero, List.push_toArray, List.append_toArray, List.nil_append, List.cons_append]
 gi_upto_region 1 with fail
 obtain ⟨w1, hw1⟩ : ∃ X, (w.alloc (.cells #[.string ⟨nm.toArray⟩, .int .i64 wd, .slice AL L.length cL, .slice AR R.length cR] 30)).alloc (.cells #[.bool right] 4) = X := ⟨_, rfl⟩
 have hb1 : Below w.heap.size w w1 := by rw [← hw1]; exact bl_alloc (bl_alloc bl_refl _) _
 have HZ1 : Hid (w1.heap.size = w.heap.size + 2) := by rw [← hw1]; simp [Hid]
 rw [hw1] at hP hQ ⊢
 clear hw1
 have fP := hP.facts
 have fQ := hQ.facts
 refine wpIn_noPanic ?_
 refine wpIn_region_ords [0, 1, 2] [(3, false), (4, false)] [5] (fun _ => trivial) (by kernel_rfl) (by kernel_rfl) (by kernel_rfl) (fun _ _ _ _ _ h => h) ?_
 simp only [List.map_cons, List.map_nil, List.getD_cons_zero, List.getD_cons_succ]
 repeat (go_big_quiet_step (fail))
 refine wpQuiet_nil ?_
 refine wpMidI_run rfl (fun K hK => ?_)
 go_simp
 refine hK _ _ (by (repeat first|exact J0|assumption|(apply J1;assumption)|apply J2|apply J3|apply J4)) ?_
 clear hK K
 have hA := Blk.new w1 40 #[.int .i64 0, .int .i64 0]
 refine wpMidI_run rfl (fun K hK => ?_)
 refine opI_store_blk hA.drew _ _ _ rfl rfl rfl rfl (by kernel_rfl) (by kernel_rfl) ?_
 intro w3 hA3 hc3
 have hb13 : Below w1.heap.size w1 w3 := chg_bl (bl_drew (bl_alloc bl_refl _)) hc3 (Nat.le_refl _)
 refine hK _ _ hb13 ?_
 clear hK K hA hc3
 refine wpMidI_nil ?_
 have hP3 := hP.below hb13
 have hQ3 := hQ.below hb13
 have hQ1 := hQ
 clear fP fQ hP hQ
 have fQ := hQ3.facts
 gi_wp2_with fail
 simp only [noPanic]
 gi_upto_if 12 with fail
 gi_cut [5, 6] from 9 (fun s5 s6 wx => ∃ A c, s5 = .pointer (some ⟨w1.heap.size, 0, none⟩) ∧ s6 = .slice A (sideP (nm, wd, L, R) right).length c ∧ Rd ec 3 w A (sideP (nm, wd, L, R) right) ∧ Blk wx w1.heap.size 40 #[.int .i64 (fromP (nm, wd, L, R) right).1, .int .i64 (fromP (nm, wd, L, R) right).2] ∧ Below w1.heap.size w1 wx)
 case first =>
  cases right
  ·gi_wp2
   gi_meet
   case rel => exact ⟨AL, cL, rfl, rfl, hrL, hA3, hb13⟩
  ·have fP := hP3.facts
   have z1 : w.heap.size < w1.heap.size := by have := HZ1.out; omega
   gi_upto_region 3 with fail
   refine wpIn_noPanic ?_
   refine wpIn_region_ordm (w1.heap.size) (fun _ => True) [0, 1, 2, 3, 4, 5] [(6, false)] [7] (fun _ => trivial) (by kernel_rfl) (by kernel_rfl) (by kernel_rfl) (fun _ _ _ _ _ h => h) trivial ?_
   simp only [List.map_cons, List.map_nil, List.getD_cons_zero, List.getD_cons_succ]
   repeat (go_big_quiet_step (fail))
   refine wpQuiet_nil ?_
   refine wpMidI_runm rfl (fun K hK => ?_)
   refine opI_store_blk hA3.drew _ _ _ rfl rfl rfl rfl (by kernel_rfl) (by kernel_rfl) ?_
   intro w4 hA4 hc4
   have hb34 : Below w1.heap.size w3 w4 := ((Chg.of_below (bl_drew bl_refl)).trans hc4).below (by simp) hb13.size
   refine hK _ _ hb34 trivial ?_
   clear hK K
   refine wpMidI_nil ?_
   gi_wp2_with fail
   simp only [noPanic]
   gi_wp2
   gi_meet
   case rel => exact ⟨AR, cR, rfl, rfl, hrR, hA4, hb13.trans hb34⟩
 case rest =>
  obtain ⟨A, c, rfl, rfl, hrS, hAc, hbc⟩ := hcut
  obtain ⟨S, hS⟩ : ∃ S, sideP (nm, wd, L, R) right = S := ⟨_, rfl⟩
  rw [hS] at hrS hs ⊢
  have HO : Hid (outP (nm, wd, L, R) right = outK right (fromP (nm, wd, L, R) right) (stpL S)) := by unfold Hid outP; rw [hS]
  have hfr : -2000 ≤ (fromP (nm, wd, L, R) right).1 ∧ (fromP (nm, wd, L, R) right).1 ≤ 2000 ∧ 0 ≤ (fromP (nm, wd, L, R) right).2 ∧ (fromP (nm, wd, L, R) right).2 ≤ 2000 := by
   unfold fromP
   cases right <;> simp <;> omega
  obtain ⟨⟨fx, fy⟩, hF⟩ : ∃ z, fromP (nm, wd, L, R) right = z := ⟨_, rfl⟩
  rw [hF] at hAc hfr HO
  simp only at hAc hfr
  obtain ⟨hs1, hs2, hs3⟩ := hs
  have hQc : Blk wc (w.heap.size + 1) 4 #[.bool right] := hQ1.below hbc
  have hbw : Below w.heap.size w wc := hb1.trans (hbc.mono hb1.size)
  have fA := hAc.facts
  have hKn : OwK wc.heap.size (wc.alloc (.cells #[.int .i64 fx, .int .i64 fy] 40)) (.slice (some ⟨wc.heap.size, 0, none⟩) 1 1) [(fx, fy)] :=
   ⟨rfl, .inr ⟨wc.heap.size, 1, _, rfl, Nat.le_refl _, heap_alloc_new wc _, Nat.le_refl _, by simp [maxLen], rfl, rfl⟩⟩
  have hOut := Blk.new1 wc (.cells #[.int .i64 fx, .int .i64 fy] 40) 93 #[.slice (some ⟨wc.heap.size, 0, none⟩) 1 1]
  replace hKn := hKn.alloc (.cells #[.slice (some ⟨wc.heap.size, 0, none⟩) 1 1] 93)
  gi_upto_region 5 with fail
  obtain ⟨w5, hw5⟩ : ∃ X, (wc.alloc (.cells #[.int .i64 fx, .int .i64 fy] 40)).alloc (.cells #[.slice (some ⟨wc.heap.size, 0, none⟩) 1 1] 93) = X := ⟨_, rfl⟩
  have hb5 : Below wc.heap.size wc w5 := by rw [← hw5]; exact bl_alloc (bl_alloc bl_refl _) _
  have hsz5 : w5.heap.size = wc.heap.size + 2 := by rw [← hw5]; simp
  rw [hw5] at hKn hOut ⊢
  clear hw5 fA
  have hA5 := hAc.below hb5
  have hQ5 := hQc.below hb5
  have hbw5 := bl_then hb5 hbw
  have hrS5 := hrS.below hbw5
  have hz1 := HZ1.out
  have hzc := hbc.size
  have hzd : w.heap.size + 2 < wc.heap.size := by have := hAc.lt; omega
  have hw0 : ∀ b off, A = some ⟨b, off, none⟩ → 0 < S.length → b < w.heap.size := fun b off e h => by
   obtain ⟨b', off', e', hlt, _⟩ := hrS 0 _ (List.getElem?_eq_getElem h)
   rw [e] at e'
   cases e'
   exact hlt
  gi_wp2_with (refine ⟨trivial, ?_⟩; gi_at_call 67; refine (callsIn_wide.2 (letters_any A S.length c _)).mono ?_; rintro e w6 ⟨rfl, rfl⟩)
  have hL6 := Blk.new w5 28 #[.slice A S.length c]
  have hb6 : Below w5.heap.size w5 (w5.alloc (.cells #[.slice A S.length c] 28)) := bl_alloc bl_refl _
  obtain ⟨w6, hw6⟩ : ∃ X, w5.alloc (.cells #[.slice A S.length c] 28) = X := ⟨_, rfl⟩
  have hsz6 : w6.heap.size = wc.heap.size + 3 := by rw [← hw6]; simp; omega
  rw [hw6] at hL6 hb6 ⊢
  clear hw6
  have hA6 := hA5.below hb6
  have hQ6 := hQ5.below hb6
  have hO6 := hOut.below hb6
  have hK6 := hKn.below hb6
  have hr6 := hrS5.below hb6
  have hbw6 := bl_then hb6 hbw5
  rw [hsz5] at hL6
  rw [hz1] at hA6 hzc
  clear hA5 hQ5 hOut hKn hrS5 hbw5 hb6 hb5 hQc hQ1 hQ3 hP3 hA3 hAc fQ hbc hb13 hbw hrS
  refine wpIn_rangeFunc_ownH rfl (by omega) (gf := 128) (lb := #[.pointer (some ⟨wc.heap.size + 2, 0, none⟩)]) rfl trivial (enters_of Tryz.func128 (by kernel_rfl) rfl)
   (letters_stops 5 (by omega) [w.heap.size + 2, wc.heap.size + 1] wc.heap.size (wc.heap.size + 2) A c S (by omega) hs2 hs3 w6 (fun b off e h => by have := hw0 b off e h; simp; omega) hL6 hr6) keepT_t (keepT_b (by omega)) (Below.refl _ _) (fun _ => rfl)
   (fun pre W => Blk W (w.heap.size + 2) 40 #[.int .i64 (posK right (fx, fy) pre).1, .int .i64 (posK right (fx, fy) pre).2] ∧ (∃ u, Blk W (wc.heap.size + 1) 93 #[u] ∧ OwK wc.heap.size W u (outK right (fx, fy) pre)) ∧ Blk W (w.heap.size + 1) 4 #[.bool right] ∧ Below w.heap.size w W ∧ w6.heap.size ≤ W.heap.size)
   (fun _ _ _ => False)
   (fun _ W W' row hs hg hr => by
    obtain ⟨h1, ⟨u, h2, h3⟩, h4, h5, h6⟩ := hs
    exact ⟨h1.grown hg (nc_blk h1 hr), ⟨u, h2.grown hg (nc_blk h2 hr), h3.kept hg (nc_own h3 hr)⟩, h4.grown hg (nc_blk h4 hr), bl_grown hg h5 (fun k e => by have := (hr k e).1; omega), Nat.le_trans h6 hg.size⟩)
   (fun _ _ _ _ _ hs _ _ => hs)
   ⟨hA6, ⟨_, hO6, hK6⟩, hQ6, hbw6, Nat.le_refl _⟩
   (fun x a' W => ∃ Bk, Blk W Bk 127 #[.int .u8 x.1.toNat, .bool x.2] ∧ w6.heap.size ≤ Bk ∧ a' = { tmps := #[.agg #[.string ⟨nm.toArray⟩, .int .i64 wd, .slice AL L.length cL, .slice AR R.length cR], .bool right, .pointer (some ⟨w.heap.size, 0, none⟩), .pointer (some ⟨w.heap.size + 1, 0, none⟩), .slice none 0 0, .pointer (some ⟨w.heap.size + 2, 0, none⟩), .slice A S.length c, .pointer (some ⟨wc.heap.size + 1, 0, none⟩), .pointer (some ⟨Bk, 0, none⟩), u9, u10, u11, u12, u13, u14, u15, u16, u17, u18, .agg #[.int .i64 fx, .int .i64 fy], .slice (some ⟨wc.heap.size, 0, none⟩) 1 1, .slice A S.length c, .func (.func 128) #[] #[.pointer (some ⟨wc.heap.size + 2, 0, none⟩)], .agg #[.int .u8 x.1.toNat, .bool x.2], u24, u25, u26, u27, u28, u29, u30, u31, u32, u33, u34, u35, u36], defers := [] })
   (fun x a' s W W' row hs hg hr => by
    obtain ⟨Bk, hX, hk, rfl⟩ := hs
    exact ⟨Bk, hX.grown hg (nc_blk hX hr), hk, rfl⟩) ?assign ?body ?done ?stop
  case assign =>
   rintro l pre x W K ⟨h1, ⟨u, h2, h3⟩, h4, h5, h6⟩ hK
   unfold encY
   gi_wp2
   have hb2 : Below W.heap.size W (W.alloc (.cells #[.int .u8 x.1.toNat, .bool x.2] 127)) := bl_alloc bl_refl _
   exact hK _ _ (keeps_of_below hb2) (KeepT.of_below hb2 (by omega)) ⟨h1.below hb2, ⟨u, h2.below hb2, h3.below hb2⟩, h4.below hb2, bl_then hb2 h5, Nat.le_trans h6 hb2.size⟩ ⟨W.heap.size, Blk.new W _ _, h6, rfl⟩
  case body =>
   rintro l pre x a' W _ _ ⟨h1, ⟨u, h2, h3⟩, h4, h5, h6⟩ ⟨Bk, hX, hk, rfl⟩ hlt
   have hnear := end_near (right := right) (n := 2000) pre (k := (fx, fy)) ⟨by simp only; omega, by simp only; omega, by simp only; omega, by simp only; omega⟩
   have HS : Hid (posK right (fx, fy) (pre ++ [x]) = aft (posK right (fx, fy) pre) x.1 (x.2 == right)) := by unfold Hid; rw [posK_snoc]; rfl
   have HW := Lib.hid (outK_snoc right pre (fx, fy) x)
   obtain ⟨⟨px, py⟩, hp⟩ : ∃ z, posK right (fx, fy) pre = z := ⟨_, rfl⟩
   rw [hp] at h1 hnear HS
   simp only at h1 hnear
   clear hp
   have hAf := fun W => after_any px py x.1 (x.2 == right) (by omega) (by omega) W
   obtain ⟨⟨qx, qy⟩, hq⟩ : ∃ z, aft (px, py) x.1 (x.2 == right) = z := ⟨_, rfl⟩
   rw [hq] at hAf HS
   simp only at hAf
   clear hq
   obtain ⟨P, hP⟩ : ∃ P, outK right (fx, fy) pre = P := ⟨_, rfl⟩
   have hPl : P.length ≤ 1000000 := by rw [← hP, outK_len]; omega
   rw [hP, HS.out] at HW
   rw [hP] at h3
   clear hP
   obtain ⟨Au, cu, rfl⟩ := h3.shape
   have f1 := h1.facts
   have fX := hX.facts
   have f4 := h4.facts
   gi_upto_region 8 with (first | (refine ⟨trivial, ?_⟩; gi_at_call 124; refine (CallsIn.inRound _ (callsIn_wide.2 (hAf _))).mono ?_; rintro e w7 ⟨rfl, hb7⟩; have h17 := h1.below hb7; have h27 := h2.below hb7) | (refine wpListIn_store_blk h17 rfl _ _ _ rfl rfl rfl (by rfl) (by kernel_rfl) (by kernel_rfl) ?_; intro w8 h18 hc8))
   have h28 := h27.chg hc8 (by simp; omega)
   have h38 := (h3.below hb7).chg hc8 (by simp; omega)
   have h48 := (h4.below hb7).chg hc8 (by simp)
   have h58 := chg_bl (bl_then hb7 h5) hc8 (by omega)
   have hz7 := hb7.size
   have hz8 : w6.heap.size ≤ w8.heap.size := Nat.le_trans h6 (Nat.le_trans hz7 hc8.size)
   have k8 : KeepsFrom w6.heap.size W w8 := (keeps_of_below hb7).trans (keeps_chg h17 hc8)
   have t8 : KeepT 107 [w.heap.size + 2, wc.heap.size + 1] wc.heap.size W w8 := (KeepT.of_below hb7 (by omega)).trans (KeepT.of_chg hc8 (by simp) h17 (by decide) (by omega))
   have f18 := h18.facts
   have f28 := h28.facts
   have hal : Below w8.heap.size w8 (w8.alloc (.cells #[.int .i64 qx, .int .i64 qy] 40)) := bl_alloc bl_refl _
   gi_wp2_with (gi_at_builtin; refine wpListIn_appK1 h38 rfl _ _ rfl rfl rfl rfl (by omega) (by omega) ?_; intro v9 w9 h39 hg9; obtain ⟨A9, c9, rfl⟩ := h39.shape; have h29 := (h28.below hal).grown hg9 (h38.ne_blk h28 (by decide)); have f9 := h29.facts)
   have hz9 := hg9.size
   have h19 := (h18.below hal).grown hg9 (fun e => by have := (h38.lt _ e.symm).1; omega)
   have h49 := (h48.below hal).grown hg9 (h38.ne_blk h48 (by decide))
   have h59 : Below w.heap.size w w9 := bl_grown hg9 (bl_then hal h58) (fun k e => by have := (h38.lt k e).1; omega)
   refine ⟨k8.trans ((keeps_of_below hal).trans ((keeps_grown (h38.alloc _) hg9).trans (keeps_set h29 0 _))),
    t8.trans ((KeepT.of_below hal (by omega)).trans ((KeepT.of_grown (h38.alloc _) (by decide) hg9 (by simp; omega) (fun k e => (h38.lt k e).1)).trans (KeepT.of_set (by simp) h29 (by decide)))), ?_, ⟨_, h29.set_ 0 _, ?_⟩, ?_, ?_, ?_⟩
   ·rw [HS.out]
    exact h19.far (p := ⟨wc.heap.size + 1, 0, none⟩) (by simp; omega) _
   ·rw [HW.out]
    have := h39.set (p := ⟨wc.heap.size + 1, 0, none⟩) (Ne.symm (h39.ne_blk h29 (by decide))) (.slice A9 (P ++ [(qx, qy)]).length c9)
    simpa using this
   ·exact h49.far (p := ⟨wc.heap.size + 1, 0, none⟩) (by simp; omega) _
   ·exact bl_set h59 (by simp; omega) _
   ·simp only [World.setCell]
    have := hal.size
    simp
    omega
  case done =>
   rintro D' ys W hD rfl ⟨h1, ⟨u, hu1, hu2⟩, h4, hbw, hs2⟩ hK
   have fo := hu1.facts
   gi_wp2
   refine ⟨by simp, .inl ⟨_, _, rfl, run_takeDeferred hK, ?_⟩⟩
   exact ⟨_, results_tmp rfl _ _ _, u, rfl, by rw [HO.out]; exact Own.base_mono (ownsRow_putObj hu2 _ hK rfl) (by omega), hbw.trans (belowK_b (w := w) (Nat.le_refl _) W D' _ _ (by omega) hK rfl rfl)⟩
  case stop =>
   rintro D' c pre W _ _ h _
   exact h.elim
def farX (k : Knot) : Bool := decide (k.1 < -4096) || decide (4096 < k.1)
theorem pfar_any (x y : Int) (w : World) : Calls Tryz.prog 122 #[.agg #[.int .i64 x, .int .i64 y]] w (RV w (.bool (farX (x, y)))) := by
 have hK := Blk.new w 40 #[.int .i64 x, .int .i64 y]
 have fhK := hK.facts
 by_cases h : x < -4096
 ·have HF : Hid (farX (x, y) = true) := by unfold Hid farX; simp [h]
  go_enter Tryz.func122, Tryz.ntmps122
  go_wp2
  go_ret
  exact ⟨by rw [HF.out]; rfl, by (repeat first|exact J0|assumption|(apply J1;assumption)|apply J2|apply J3|apply J4)⟩
 ·have HF : Hid (farX (x, y) = decide (4096 < x)) := by unfold Hid farX; simp [h]
  have t1 : (x < -4096) = False := eq_false h
  clear h
  go_enter Tryz.func122, Tryz.ntmps122
  go_wp2
  go_ret
  exact ⟨by rw [HF.out]; rfl, by (repeat first|exact J0|assumption|(apply J1;assumption)|apply J2|apply J3|apply J4)⟩
theorem top_any (l : List Knot) (A : Option Addr) (c : Nat) (w : World) (h : Rd kc 2 w A l) (hl : l.length ≤ 1000000) (x y : Int) (hx : l[l.length - 1]? = some (x, y)) : Calls Tryz.prog 120 #[.slice A l.length c] w (RV w (.agg #[.int .i64 x, .int .i64 y])) := by
 obtain ⟨hlt, he⟩ := List.getElem?_eq_some_iff.1 hx
 obtain ⟨b, off, rfl, hb, e0, e1⟩ := h.knot hlt
 rw [he] at e0 e1
 simp only at e0 e1
 obtain ⟨t, ht⟩ : ∃ t, l.length - 1 = t := ⟨_, rfl⟩
 have hlm : (l.length : Int) - 1 = (t : Int) := by omega
 have htl : t < l.length := by omega
 rw [ht] at e0 e1
 clear hx he ht hlt h
 go_enter Tryz.func120, Tryz.ntmps120
 go_wp2
 refine bodyPost_ret (v := .agg #[.int .i64 x, .int .i64 y]) (by simp [results, Tryz.results120, go_sem]) rfl ?_
 exact ⟨rfl, by (repeat first|exact J0|assumption|(apply J1;assumption)|apply J2|apply J3|apply J4)⟩
end Go.Proofs.YtkkefahobjlagaaGreatDoor

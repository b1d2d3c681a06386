/- A range over a map, its entries told as a list; the knots of a hole in their order, walked. Conditions: the hole's bars have sides 1 or -1. -/
import Derived.Test.YtpompeancmonbaaGreatD10
import Derived.Maps.RangeRun
import Derived.Test.YtpompeancmonbaaGreatD02
import Derived.RangeFuncNested
import Derived.RangeFuncBound
import Derived.RangeFuncCalls
import Derived.RangeFuncLeaves
import Derived.RangeFuncBox
import Derived.OwnWalkIn
import Derived.TacticsInMore
import Derived.LoopNIn
import Derived.LoopIn
namespace Go.Proofs.YtpompeancmonbaaGreat
open Go.RowKit Go.ChangeMaps
set_option maxHeartbeats 2000000
set_option maxRecDepth 100000

/-! ## a range over a map -/
/-- block r is an iterator over the map in block rk; the keys 'done' have come -/
structure RngAt {κ ν : Type} (w : World) (r rk : Nat) (m : List (κ × ν × Nat)) (c : Nat) (done : List κ) : Prop where
  it : ∃ since seen c0, w.heap[r]? = some (.mapIter (some rk) since seen c0) ∧ (∀ x ∈ m, x.2.2 < since) ∧ (since ≤ c0 ∧ since ≤ c) ∧ seen.size = done.length ∧ ∀ x ∈ m, (x.1 ∈ done ↔ x.2.2 ∈ seen.toList)
  nodup : done.Nodup
  sub : ∀ k ∈ done, k ∈ mkeys m
/-- how many have come, read off the world -/
def seenN (w : World) (r : Nat) : Nat := match w.heap[r]? with
  | some (.mapIter _ _ seen _) => seen.size
  | _ => 0
section
variable {κ ν : Type} {w w' : World} {r rk : Nat} {m : List (κ × ν × Nat)} {done : List κ} {c : Nat} {ek : κ → Value} {ev : ν → Value} {P : Program}
theorem RngAt.seenN (h : RngAt w r rk m c done) : seenN w r = done.length := by
  obtain ⟨since, seen, c0, h1, _, _, h4, _⟩ := h.it
  unfold Go.Proofs.YtpompeancmonbaaGreat.seenN
  rw [h1]
  exact h4
theorem RngAt.lt (h : RngAt w r rk m c done) : r < w.heap.size := by
  obtain ⟨_, _, _, h1, _⟩ := h.it
  exact (Array.getElem?_eq_some_iff.1 h1).1
theorem RngAt.of_block (h : RngAt w r rk m c done) (hb : w'.heap[r]? = w.heap[r]?) : RngAt w' r rk m c done := by
  obtain ⟨since, seen, c0, h1, hr⟩ := h.it
  exact ⟨⟨since, seen, c0, hb.trans h1, hr⟩, h.nodup, h.sub⟩
theorem RngAt.below (h : RngAt w r rk m c done) (hb : Below w.heap.size w w') : RngAt w' r rk m c done := h.of_block (hb.block r h.lt)
theorem RngAt.ne_blk (h : RngAt w r rk m c done) {g : Nat} {t : TypeId} {cs : Array Value} (hB : Blk w g t cs) : g ≠ r := by
  obtain ⟨_, _, _, h1, _⟩ := h.it
  rintro rfl
  unfold Blk at hB
  rw [h1] at hB
  cases hB
theorem RngAt.ne_own (h : RngAt w r rk m c done) {α : Type} {enc : α → List Value} {sz base : Nat} {e : TypeId} {v : Value} {l : List α} (ho : Own enc sz base e w v l) : v.ownBlock ≠ some r := by
  obtain ⟨_, _, _, h1, _⟩ := h.it
  rcases ho.2 with ⟨rfl, _⟩ | ⟨g, cap, cur, rfl, _, hh, _⟩
  · simp [Value.ownBlock]
  · intro he
    have : g = r := by simpa [Value.ownBlock] using he
    subst this
    rw [h1] at hh
    cases hh
theorem Own.ne_blk {α : Type} {enc : α → List Value} {sz base : Nat} {e : TypeId} {v : Value} {l : List α} (ho : Own enc sz base e w v l) {g : Nat} {t : TypeId} {cs : Array Value} (hB : Blk w g t cs) (ht : t ≠ e) : some g ≠ v.ownBlock := by
  rcases ho.2 with ⟨rfl, _⟩ | ⟨g', cap, cur, rfl, _, hh, _⟩
  · simp [Value.ownBlock]
  · intro he
    have : g = g' := by simpa [Value.ownBlock] using he
    subst this
    unfold Blk at hB
    rw [hh] at hB
    cases hB
    exact ht rfl
theorem Own.chg1 {α : Type} {enc : α → List Value} {sz base : Nat} {e : TypeId} {v : Value} {l : List α} (ho : Own enc sz base e w v l) (hc : Chg [r] w w') (hr : v.ownBlock ≠ some r) : Own enc sz base e w' v l :=
  ho.kept (row := some r) ⟨hc.os, hc.tape, hc.output, hc.size, fun k hk hne => hc.block k hk (by simpa using hne)⟩ (.inr hr)
theorem Own.set {α : Type} {enc : α → List Value} {sz base : Nat} {e : TypeId} {v : Value} {l : List α} (ho : Own enc sz base e w v l) {p : Addr} (hp : v.ownBlock ≠ some p.block) (u : Value) : Own enc sz base e (w.setCell p u) v l :=
  ho.kept (row := some p.block) ⟨rfl, rfl, rfl, by simp [World.setCell], fun k _ hne => Below.heap_setCell w p u k (fun e => hne (by rw [e]))⟩ (.inr hp)
theorem run_range_map {k e t : TypeId} (h : MapAt ek ev w rk m c) (ht : P.underlying t = some (.map k e)) :
    (Instr.range t (.map (some rk))).run P w = .ok (.pointer (some ⟨w.heap.size, 0, none⟩)) (w.alloc (.mapIter (some rk) c #[] c)) := by
  simp only [Instr.range, Sem.run_bind, run_underlying ht, Result.andThen_ok, MapKept.run_getObj_map h]
  rfl
theorem RngAt.start (hok : MOk m c) : RngAt (w.alloc (.mapIter (some rk) c #[] c)) w.heap.size rk m c ([] : List κ) :=
  ⟨⟨c, #[], c, heap_alloc_new w _, hok.below, ⟨Nat.le_refl _, Nat.le_refl _⟩, rfl, fun x _ => by simp⟩, List.nodup_nil, fun k hk => by simp at hk⟩
theorem rng_next (hR : RngAt w r rk m c done) (h : MapAt ek ev w rk m c) (hok : MOk m c) (hne : r ≠ rk) :
    ((∀ k ∈ mkeys m, k ∈ done) ∧ ∀ ty, (Instr.next (.pointer (some ⟨r, 0, none⟩)) false ty).run P w = .ok (.tuple #[.bool false]) w) ∨
    ∃ x ∈ m, x.1 ∉ done ∧ ∃ w', (∀ ty, (Instr.next (.pointer (some ⟨r, 0, none⟩)) false ty).run P w = .ok (.tuple #[.bool true, ek x.1, ev x.2.1]) w') ∧
      (Instr.entry (.pointer (some ⟨r, 0, none⟩))).run P w' = .ok (.tuple #[ek x.1, ev x.2.1]) w' ∧ Chg [r] w w' ∧ RngAt w' r rk m c (done ++ [x.1]) := by
  obtain ⟨since, seen, c0, h1, h2, h3, h4, h5⟩ := hR.it
  have hold : ∀ y ∈ (m.map (ment ek ev)).toArray.toList, y.born < since := fun y hy => by
    obtain ⟨x, hx, rfl⟩ := List.mem_map.1 hy
    exact h2 x hx
  have key := fun ty => run_next_at (P := P) w ty r rk since c0 seen _ c h1 h hold h3.1
  by_cases hz : (leftOf (m.map (ment ek ev)).toArray seen).size = 0
  · left
    refine ⟨fun k hk => ?_, fun ty => ?_⟩
    · obtain ⟨x, hx, rfl⟩ := List.mem_map.1 hk
      by_cases hd : x.1 ∈ done
      · exact hd
      · exfalso
        have hns : x.2.2 ∉ seen.toList := fun hs => hd ((h5 x hx).2 hs)
        have : ment ek ev x ∈ leftOf (m.map (ment ek ev)).toArray seen := by
          unfold leftOf
          rw [Array.mem_filter]
          refine ⟨by simpa using ⟨_, _, _, hx, rfl⟩, ?_⟩
          have : seen.contains x.2.2 = false := by
            rw [Bool.eq_false_iff]
            intro hc
            exact hns (by simpa using hc)
          show (!seen.contains (ment ek ev x).born) = true
          rw [show (ment ek ev x).born = x.2.2 from rfl, this]; rfl
        have hp : 0 < (leftOf (m.map (ment ek ev)).toArray seen).size := Array.size_pos_of_mem this
        omega
    · rcases key ty with ⟨_, hr⟩ | ⟨e, he, _⟩
      · exact hr
      · exfalso
        have : 0 < (leftOf (m.map (ment ek ev)).toArray seen).size := Array.size_pos_of_mem (by simpa using he)
        omega
  · right
    rcases key 0 with ⟨h0, _⟩ | ⟨e, he, w1, hw1, hr⟩
    · exact absurd h0 hz
    · have he' : e ∈ leftOf (m.map (ment ek ev)).toArray seen := by simpa using he
      unfold leftOf at he'
      rw [Array.mem_filter] at he'
      obtain ⟨hm, hns⟩ := he'
      obtain ⟨x, hx, rfl⟩ : ∃ x ∈ m, ment ek ev x = e := by simpa using hm
      have hns' : x.2.2 ∉ seen.toList := fun hs => by
        have : seen.contains x.2.2 = true := by simpa using hs
        rw [show (ment ek ev x).born = x.2.2 from rfl, this] at hns
        cases hns
      have hnd : x.1 ∉ done := fun hd => hns' ((h5 x hx).1 hd)
      have hr1 : w1.heap[r]? = some (.mapIter (some rk) since seen c0) := by rcases hw1 with rfl | rfl <;> exact h1
      have hm1 : MapAt ek ev w1 rk m c := by rcases hw1 with rfl | rfl <;> exact h
      have hch : Chg [r] w w1 := by
        rcases hw1 with rfl | rfl
        · exact Chg.refl
        · exact Chg.refl.drew
      have hch2 : Chg [r] w (setBlock w1 r (.mapIter (some rk) since (seen.push x.2.2) c)) := hch.setBlock (by simp) _
      have hrlt : r < w1.heap.size := (Array.getElem?_eq_some_iff.1 hr1).1
      have hit : (setBlock w1 r (.mapIter (some rk) since (seen.push x.2.2) c)).heap[r]? = some (.mapIter (some rk) since (seen.push x.2.2) c) := by
        simp [setBlock, hrlt]
      have hm2 : MapAt ek ev (setBlock w1 r (.mapIter (some rk) since (seen.push x.2.2) c)) rk m c := h.chg hch2 (by simp [Ne.symm hne])
      refine ⟨x, hx, hnd, _, fun ty => hr, ?_, hch2, ⟨⟨since, seen.push x.2.2, c, hit, h2, ⟨h3.2, h3.2⟩, by simp [h4], fun y hy => ?_⟩, ?_, ?_⟩⟩
      · exact run_entry_at _ r rk since seen _ c (ment ek ev x) hit hm2 (by simpa using ⟨_, _, _, hx, rfl⟩) (by
          have := hok.stamps
          simpa [List.map_map, Function.comp_def, ment] using this)
      · have hyx : y.2.2 = x.2.2 → y = x := fun e => by
          have hs := hok.stamps
          obtain ⟨i, hi, rfl⟩ := List.getElem_of_mem hy
          obtain ⟨j, hj, rfl⟩ := List.getElem_of_mem hx
          have := (List.getElem_inj (xs := m.map (·.2.2)) (h₀ := by simpa using hi) (h₁ := by simpa using hj) hs).1 (by simpa using e)
          subst this; rfl
        have hky : y.1 = x.1 → y = x := fun e => by
          have hs := hok.keys
          obtain ⟨i, hi, rfl⟩ := List.getElem_of_mem hy
          obtain ⟨j, hj, rfl⟩ := List.getElem_of_mem hx
          have := (List.getElem_inj (xs := mkeys m) (h₀ := by simpa [mkeys] using hi) (h₁ := by simpa [mkeys] using hj) hs).1 (by simpa [mkeys] using e)
          subst this; rfl
        rw [List.mem_append, List.mem_singleton, h5 y hy]
        simp only [Array.toList_push, List.mem_append, List.mem_singleton]
        constructor
        · rintro (h | h)
          · exact .inl h
          · exact .inr (by rw [hky h])
        · rintro (h | h)
          · exact .inl h
          · exact .inr (by rw [hyx h])
      · rw [List.nodup_append]
        exact ⟨hR.nodup, by simp, fun a ha b hb => by
          obtain rfl : b = x.1 := by simpa using hb
          rintro rfl; exact hnd ha⟩
      · intro k hk
        rcases List.mem_append.1 hk with hk | hk
        · exact hR.sub k hk
        · obtain rfl : k = x.1 := by simpa using hk
          exact List.mem_map_of_mem hx
end

section
variable {ops : Array Oper} {rest : List Oper} {o : Oper} {a : Act} {Q : Exit → Act → World → Prop} {base : Nat} {W : World} {v : Value} {X Y S : Int}
/-- the appends of one element, the place of its block told otherwise -/
theorem wpList_appB1 {l : List Bar} (hown : OwB base W v l) {g : Nat} (hgd : o.guard = none) (s x : Operand) (ho : o.op = .call { callee := .builtin .append, args := #[s, x], argTypes := #[22, 22] })
    (hs : a.eval s = v) (hx : a.eval x = .slice (some ⟨g, 0, none⟩) 1 1) (hg : W.heap.size = g) (hlen : l.length ≤ 1000000) (hbase : base ≤ W.heap.size)
    (h : ∀ v' w', OwB base w' v' (l ++ [(X, Y, S)]) → (W.alloc (.cells #[.int .i64 X, .int .i64 Y, .int .i64 S] 46)).grownBy w' v.ownBlock → wpList Tryz.prog ops Q rest (a.put o.dst v') w') :
    wpList Tryz.prog ops Q (o :: rest) a (W.alloc (.cells #[.int .i64 X, .int .i64 Y, .int .i64 S] 46)) := by
  subst hg
  exact wpList_appB hown hgd s x ho hs hx hlen hbase h
theorem wpList_appK1 {l : List Knot} (hown : OwK base W v l) {g : Nat} (hgd : o.guard = none) (s x : Operand) (ho : o.op = .call { callee := .builtin .append, args := #[s, x], argTypes := #[41, 41] })
    (hs : a.eval s = v) (hx : a.eval x = .slice (some ⟨g, 0, none⟩) 1 1) (hg : W.heap.size = g) (hlen : l.length ≤ 1000000) (hbase : base ≤ W.heap.size)
    (h : ∀ v' w', OwK base w' v' (l ++ [(X, Y)]) → (W.alloc (.cells #[.int .i64 X, .int .i64 Y] 32)).grownBy w' v.ownBlock → wpList Tryz.prog ops Q rest (a.put o.dst v') w') :
    wpList Tryz.prog ops Q (o :: rest) a (W.alloc (.cells #[.int .i64 X, .int .i64 Y] 32)) := by
  subst hg
  exact wpList_appK hown hgd s x ho hs hx hlen hbase h
end
/-! ## the knots of a hole, in their order -/
theorem insK_len (k : Knot) : ∀ l : List Knot, (insK l k).length ≤ l.length + 1
  | [] => by simp [insK]
  | x :: r => by
    unfold insK
    have := insK_len k r
    split
    · simp only [List.length_cons]; omega
    · split <;> simp
theorem holeIn_len : ∀ (D : List Bar) (o : List Knot), (holeIn o D).length ≤ o.length + 2 * D.length
  | [], o => by simp [holeIn]
  | b :: D, o => by
    have h := holeIn_len D (insK (insK o (lowK b)) (uppK b))
    have h1 := insK_len (lowK b) o
    have h2 := insK_len (uppK b) (insK o (lowK b))
    show (holeIn (insK (insK o (lowK b)) (uppK b)) D).length ≤ _
    simp only [List.length_cons]
    omega
theorem holeK_len (D : List Bar) : (holeK D).length ≤ 2 * D.length := by
  have : (holeK D).length ≤ 0 + 2 * D.length := holeIn_len D []
  omega
theorem keys_hole {D : List Bar} (hs : ∀ b ∈ D, Sided b) {mk : List (Knot × Legs × Nat)} (g : ∀ k, mget k mk = legsO D k) (k : Knot) : k ∈ mkeys mk ↔ k ∈ holeK D := by
  have h1 := @mget_none _ _ _ k mk
  rw [holeK_mem hs]
  rw [g k] at h1
  unfold legsO at h1
  by_cases h : legsAt D k = noLegs
  · rw [if_pos h] at h1
    simp at h1
    simp [h, h1]
  · rw [if_neg h] at h1
    simp at h1
    simp [h, h1]
theorem all_any (h rb rk : Nat) (D : List Bar) (w : World) (H : HoleAt w h rb rk D) (hs : ∀ b ∈ D, Sided b) (hlen : D.length ≤ 100000) :
    Calls Tryz.prog 54 #[.pointer (some ⟨h, 0, none⟩)] w fun e w' => ∃ bh bl v, e = .returned (.func (.func 102) #[] #[.pointer (some ⟨bl, 0, none⟩), .pointer (some ⟨bh, 0, none⟩)]) ∧
      w.heap.size ≤ bh ∧ w.heap.size ≤ bl ∧ Blk w' bh 93 #[.pointer (some ⟨h, 0, none⟩)] ∧ Blk w' bl 41 #[v] ∧ OwK w.heap.size w' v (holeK D) ∧ Below w.heap.size w w' := by
  obtain ⟨mk, ck, hm, hok, gk⟩ := H.knots
  have hkeys := Lib.hid (keys_hole hs gk)
  have hHB := H.blk
  have hKN : Hid ((mkeys mk).Nodup) := hok.keys
  have OK := Lib.hid hok
  clear gk hok
  have hkl : Hid (∀ l : List Knot, l.Nodup → (∀ k ∈ l, k ∈ mkeys mk) → l.length ≤ 200000) := fun l hn hsub => by
    have := length_le_of_sub hn (fun k hk => (hkeys.out k).1 (hsub k hk))
    have := holeK_len D
    omega
  have hB0 := Blk.new w 93 #[.pointer (some ⟨h, 0, none⟩)]
  have hB1 := (hB0.alloc (.cells #[.slice none 0 0] 41))
  have hL1 := Blk.new1 w (.cells #[.pointer (some ⟨h, 0, none⟩)] 93) 41 #[.slice none 0 0]
  have fB0 := hB0.facts
  have fB1 := hB1.facts
  have hH1 := hHB.below (bl_alloc (bl_alloc bl_refl (.cells #[.pointer (some ⟨h, 0, none⟩)] 93)) (.cells #[.slice none 0 0] 41))
  have fH1 := hH1.facts
  have hm1 := hm.below (bl_alloc (bl_alloc bl_refl (.cells #[.pointer (some ⟨h, 0, none⟩)] 93)) (.cells #[.slice none 0 0] 41))
  have hrg := run_range_map (P := Tryz.prog) hm1 und_knots
  have hst := RngAt.start (κ := Knot) (ν := Legs) (w := (w.alloc (.cells #[.pointer (some ⟨h, 0, none⟩)] 93)).alloc (.cells #[.slice none 0 0] 41)) (rk := rk) OK.out
  simp only [World.size_alloc] at hrg hst
  go_enter Tryz.func54, Tryz.ntmps54
  go_wp2
  have hL2 := hL1.alloc (.mapIter (some rk) ck #[] ck)
  have hB2 := hB1.alloc (.mapIter (some rk) ck #[] ck)
  clear hrg hm1 fH1 fB1 fB0
  go_loopw [] (fun wr => ∃ done v, Blk wr w.heap.size 93 #[.pointer (some ⟨h, 0, none⟩)] ∧ Blk wr (w.heap.size + 1) 41 #[v] ∧ OwK w.heap.size wr v done ∧ RngAt wr (w.heap.size + 1 + 1) rk mk ck done ∧ Below w.heap.size w wr) (fun wr => mk.length - seenN wr (w.heap.size + 1 + 1))
  case atStart => exact ⟨[], _, hB2, hL2, Own.nil_, hst, by (repeat (first | exact bl_refl | assumption | (apply bl_then; assumption) | refine bl_alloc ?_ _ | refine bl_drew ?_ | refine bl_drewN ?_ _))⟩
  case round =>
    clear hL2 hB2 hst hB0 hB1 hL1 hH1
    obtain ⟨done, v, hBh, hBl, hown, hR, hbw⟩ := hrel
    have hmr := hm.below hbw
    have hne : w.heap.size + 1 + 1 ≠ rk := by have := hm.lt; omega
    have hdl := hkl.out done hR.nodup hR.sub
    rcases rng_next (P := Tryz.prog) hR hmr OK.out hne with ⟨hall, hrun⟩ | ⟨⟨⟨kx, ky⟩, L, st⟩, hx, hnd, w1, hrun, hen, hch, hR1⟩
    · have fBl := hBl.facts
      have HA := Lib.hid hall
      clear hall
      go_wp2_with (go_at_call 100; refine (sortK_any done _ hown (by omega)).mono ?_; rintro e w2 ⟨rfl, hown2, hgr2⟩)
      have hbw2 := own_step hown hgr2 hbw
      have hE : srtK done = holeK D := sorted_unique kltP_irr kltP_tr (srtK_sorted hR.nodup) (holeK_sorted D) fun x => by
        rw [srtK_mem, ← hkeys.out]
        exact ⟨hR.sub x, HA.out x⟩
      go_ret
      exact ⟨w.heap.size, w.heap.size + 1, v, rfl, Nat.le_refl _, by omega, hBh.grown hgr2 (hown.ne_blk hBh (by decide)), hBl.grown hgr2 (hown.ne_blk hBl (by decide)), by rw [← hE]; exact hown2, hbw2⟩
    · have hown1 := hown.chg1 hch (hR.ne_own hown)
      have hBl1 := hBl.chg hch (by simp)
      have hBh1 := hBh.chg hch (by simp; omega)
      have hen' : (Instr.entry (.pointer (some ⟨w.heap.size + 1 + 1, 0, none⟩))).run Tryz.prog w1 = .ok (.tuple #[.agg #[.int .i64 kx, .int .i64 ky], lv L]) w1 := hen
      have hrun' : ∀ ty, (Instr.next (.pointer (some ⟨w.heap.size + 1 + 1, 0, none⟩)) false ty).run Tryz.prog wr = .ok (.tuple #[.bool true, .agg #[.int .i64 kx, .int .i64 ky], lv L]) w1 := hrun
      have hbw1 : Below w.heap.size w w1 := ((Chg.of_below hbw).trans (hch.mono (S' := [w.heap.size + 1 + 1]) (by simp))).below (by simp; omega) (Nat.le_refl _)
      clear hen hrun
      have hR1' := hR1.below (bl_alloc bl_refl (.cells #[.int .i64 kx, .int .i64 ky] 32))
      have hownA := hown1.alloc (.cells #[.int .i64 kx, .int .i64 ky] 32)
      have hBlA := hBl1.alloc (.cells #[.int .i64 kx, .int .i64 ky] 32)
      have hBhA := hBh1.alloc (.cells #[.int .i64 kx, .int .i64 ky] 32)
      have fBlA := hBlA.facts
      have hbA : Below w.heap.size w (w1.alloc (.cells #[.int .i64 kx, .int .i64 ky] 32)) := by (repeat (first | exact bl_refl | assumption | (apply bl_then; assumption) | refine bl_alloc ?_ _ | refine bl_drew ?_ | refine bl_drewN ?_ _))
      go_wp2_with (at_builtin; refine wpList_appK1 hownA rfl _ _ rfl rfl rfl (by simp) (by omega) (Below.size hbA) ?_; intro v2 w2 hown2 hgr2; obtain ⟨A2, c2, rfl⟩ := hown2.shape; have fBl2 := ((hBlA.alloc _).grown hgr2 (hownA.ne_blk hBlA (by decide))).facts)
      have hbw2 := own_step hownA hgr2 (by (repeat (first | exact bl_refl | assumption | (apply bl_then; assumption) | refine bl_alloc ?_ _ | refine bl_drew ?_ | refine bl_drewN ?_ _)))
      simp only [List.length_append, List.length_cons, List.length_nil, Nat.zero_add] at hown2
      have hBl2 := (hBlA.alloc (.cells #[.int .i64 kx, .int .i64 ky] 32)).grown hgr2 (hownA.ne_blk hBlA (by decide))
      have hBh2 := (hBhA.alloc (.cells #[.int .i64 kx, .int .i64 ky] 32)).grown hgr2 (hownA.ne_blk hBhA (by decide))
      have hR2 := hR1'.below (bl_alloc bl_refl (.cells #[.int .i64 kx, .int .i64 ky] 32))
      have hR3 := hR2.of_block (hgr2.block _ hR2.lt (Ne.symm (hR2.ne_own (hownA.alloc _))))
      have hR4 := hR3.of_block (Below.heap_setCell w2 ⟨w.heap.size + 1, 0, none⟩ (.slice A2 (done.length + 1) c2) (w.heap.size + 1 + 1) (by simp))
      have hlt : done.length < mk.length := by
        have := length_le_of_sub hR1.nodup hR1.sub
        rw [mkeys_length, List.length_append] at this
        simp only [List.length_cons, List.length_nil] at this
        omega
      have hne2 := Ne.symm (hown2.ne_blk hBl2 (by decide))
      go_roundw
      case rel => exact ⟨done ++ [(kx, ky)], _, hBh2.far (by simp) _, hBl2.set_ 0 _, hown2.set hne2 _, hR4, bl_set hbw2 (by simp) _⟩
      case measure => rw [hR4.seenN, hR.seenN]; simp; omega
end Go.Proofs.YtpompeancmonbaaGreat

/- The law for a region that draws its order (Ord), inside a fence that lets every function in: for the rounds of a range over a function, and for its iterators. Conditions: the Bools 'ordB' and 'noDefer' over the region. -/
namespace Go.Proofs.YtpompeancmonbaaGreat
open Go.RowKit

section
variable {F : Fence} {n : Nat} {P : Program} {ops : Array Oper} {Q : Exit → Act → World → Prop} {md : Region.Mode} {C : World → Prop} {kp : Nat → Bool}

def isDefer (o : Oper) : Bool := match o.op with | .defer _ => true | _ => false
def noDefer (ops : Array Oper) : Bool := ops.all fun o => !isDefer o
theorem noDefer_spec (h : noDefer ops = true) {i : Nat} {o : Oper} (ho : ops[i]? = some o) : ∀ c, o.op ≠ .defer c := by
  intro c e
  have := Array.all_eq_true'.1 h o (Array.mem_of_getElem? ho)
  simp [isDefer, e] at this
theorem yieldsIf_wpOpIn (hF : ∀ f, F.fn f) {i : Nat} {o : Oper} {v : Value} {a : Act} (hd : ∀ c, o.op ≠ .defer c) (hi : ops[i]? = some o) (hy : YieldsIf P ops C o v a)
    {K : Act → World → Prop} {w : World} (hS : C w) (h : K (a.put o.dst v) w) : wpOpIn F n P ops Q i K a w := by
  unfold Go.wpOpIn
  simp only [hi]
  rcases hy with ⟨hw, hv⟩ | ⟨hw, rfl⟩
  · simp only [hw, if_true, Oper.wpIn, Oper.semAt_plain F _ _ hd, hv w hS, Oper.uponIn]
    exact ⟨fun f _ => hF f, h⟩
  · simp only [hw, Bool.false_eq_true, if_false]
    exact ⟨fun f _ => hF f, h⟩
theorem wpOpIn_putIf (hF : ∀ f, F.fn f) {j : Nat} {oi oj : Oper} {v : Value} (hdj : ∀ c, oj.op ≠ .defer c) (hj : ops[j]? = some oj) (hap : oi.apart ops oj = true)
    (hsi : ∀ cs b, oi.op ≠ .select cs b) (hsj : ∀ cs b, oj.op ≠ .select cs b)
    (hQ : ∀ c a w, Q (.panic c) (a.put oi.dst v) w → Q (.panic c) a w) {K : Act → World → Prop} {a : Act} {w : World}
    (hy : YieldsIf P ops C oi v a) (h : wpOpIn F n P ops Q j K (a.put oi.dst v) w) :
    wpOpIn F n P ops Q j (fun a' w' => YieldsIf P ops C oi v a' ∧ K (a'.put oi.dst v) w') a w := by
  obtain ⟨h1, h2, h3⟩ := Oper.apart_spec hap
  have keep : ∀ (a : Act), YieldsIf P ops C oi v a → ∀ u, YieldsIf P ops C oi v (a.put oj.dst u) := fun a hy u =>
    hy.of_same (execOp_put oi hsi a oj.dst u h3) (wanted_put oi a oj.dst u h3)
  have keepD : ∀ d, YieldsIf P ops C oi v { a with defers := d :: a.defers } := fun d => hy.of_same rfl rfl
  unfold Go.wpOpIn at *
  simp only [hj] at *
  rw [wanted_put oj a oi.dst v h1] at h
  split
  · rename_i hw
    simp only [hw, if_true] at h
    unfold Oper.wpIn at *
    refine ⟨fun f _ => hF f, ?_⟩
    have h := h.2
    rw [Oper.semAt_plain F _ _ hdj, execOp_put oj hsj a oi.dst v h1] at h
    rw [Oper.semAt_plain F _ _ hdj]
    generalize (execOp a.eval oj).run P w = r at *
    cases r with
    | ok x w' =>
      cases x <;> simp only [Oper.uponIn] at h ⊢
      case value u => exact ⟨keep a hy u, by rw [← Act.put_comm a v u h2]; exact h⟩
      case skip => exact ⟨keep a hy _, by rw [← Act.put_comm a v undef h2]; exact h⟩
      case defer d =>
        refine ⟨keep _ (keepD d) _, ?_⟩
        rw [← Act.put_comm _ v undef h2, ← Act.put_defers]
        exact h
      case enter f args =>
        refine ⟨h.1, CallsIn.mono h.2 fun e w'' he => ?_⟩
        cases e with
        | returned u => exact ⟨keep a hy u, by rw [← Act.put_comm a v u h2]; exact he⟩
        | panicked c => exact hQ _ _ _ he
        | outgrown => exact he
      case row row args => exact ⟨h.1, RowsIn.mono h.2 fun u w'' he => ⟨keep a hy u, by rw [← Act.put_comm a v u h2]; exact he⟩⟩
      case round l f tmps assign body =>
        refine ⟨h.1, RoundIn.mono h.2 fun e w'' he => ?_⟩
        cases e with
        | returned u => exact ⟨keep a hy u, by rw [← Act.put_comm a v u h2]; exact he⟩
        | panicked c => exact hQ _ _ _ he
        | outgrown => exact he
    | halt x w' =>
      cases x <;> simp only [Oper.uponIn] at h ⊢
      case panic u => exact hQ _ _ _ h
  · rename_i hw
    simp only [hw] at h
    exact ⟨fun f _ => hF f, keep a hy _, by rw [← Act.put_comm a v undef h2]; exact h.2⟩

def wpAnyGI (F : Fence) (n : Nat) (P : Program) (md : Region.Mode) (ops : Array Oper) (Q : Exit → Act → World → Prop) (C : World → Prop) (kp : Nat → Bool) : Nat → Array Bool → Act → World → Prop
  | 0, listed, a, w => Region.ready md ops listed = [] ∧ Q .normal a w
  | f + 1, listed, a, w => (Region.ready md ops listed = [] → Q .normal a w) ∧
      ∀ i ∈ Region.ready md ops listed, wpOpIn F n P ops Q i (fun a' w' => (kp i = true → C w') ∧ wpAnyGI F n P md ops Q C kp f (listed.setIfInBounds i true) a' w') a w

theorem wpAnyIn_of_GI : ∀ (f : Nat) (listed : Array Bool) (a : Act) (w : World), wpAnyGI F n P md ops Q C kp f listed a w → wpAnyIn F n P md ops Q f listed a w
  | 0, _, _, _, h => h
  | f + 1, _, _, _, h => ⟨h.1, fun i hi => wpOpIn_mono (fun a' w' h' => wpAnyIn_of_GI f _ a' w' h'.2) (h.2 i hi)⟩

theorem wpAnyGI_first (hF : ∀ f, F.fn f) (hnd : noDefer ops = true) {i : Nat} {oi : Oper} {v : Value} {N : Nat} (hi : ops[i]? = some oi) (hsel : ∀ (j : Nat) (o : Oper) cs b, ops[j]? = some o → o.op ≠ .select cs b)
    (hQ : ∀ c a w, Q (.panic c) (a.put oi.dst v) w → Q (.panic c) a w) :
    ∀ (fuel : Nat) (listed : Array Bool) (a : Act) (w : World), Closed md ops listed →
      (∀ j oj, ops[j]? = some oj → j ≠ i → listed.getD j true = false → (∀ e ∈ oj.after, Region.binds md e = true → e.on ≠ i) → oi.apart ops oj = true) →
      (∀ j, j < ops.size → j ≠ i → listed.getD j true = false → kp j = true ∨ waitsN md ops N j i = true) →
      i ∈ Region.ready md ops listed → YieldsIf P ops C oi v a → C w →
      wpAnyGI F n P md ops Q C kp fuel (listed.setIfInBounds i true) (a.put oi.dst v) w → wpAnyGI F n P md ops Q C kp (fuel + 1) listed a w := by
  intro fuel
  induction fuel with
  | zero =>
    intro listed a w _ _ _ hr hy hC H
    refine ⟨fun h => (by rw [h] at hr; cases hr), fun j hj => ?_⟩
    by_cases hji : j = i
    · subst hji; exact yieldsIf_wpOpIn hF (noDefer_spec hnd hi) hi hy hC ⟨fun _ => hC, H⟩
    · have := ready_mono hj hji
      rw [H.1] at this
      cases this
  | succ fuel ih =>
    intro listed a w hcl hfree hkp hr hy hC H
    refine ⟨fun h => (by rw [h] at hr; cases hr), fun j hj => ?_⟩
    by_cases hji : j = i
    · subst hji; exact yieldsIf_wpOpIn hF (noDefer_spec hnd hi) hi hy hC ⟨fun _ => hC, H⟩
    · have h1 := H.2 j (ready_mono hj hji)
      obtain ⟨hjun, oj, hoj, hall⟩ := mem_ready.1 hj
      have hiun : listed.getD i false = false := unlisted_both (mem_ready.1 hr).1
      have hnot : ∀ e ∈ oj.after, Region.binds md e = true → e.on ≠ i := fun e he hb heq => by
        have h1 := hall e he hb
        rw [heq, hiun] at h1
        cases h1
      have hkj : kp j = true := by
        rcases hkp j (Array.getElem?_eq_some_iff.1 hoj).1 hji hjun with h | h
        · exact h
        · have := waitsN_listed hcl N j h (fun oj' hj' e he hb => by
            obtain rfl : oj = oj' := Option.some.inj (hoj.symm.trans hj')
            exact hall e he hb)
          rw [hiun] at this
          cases this
      have h2 := wpOpIn_putIf hF (noDefer_spec hnd hoj) hoj (hfree j oj hoj hji hjun hnot) (fun cs b => hsel i oi cs b hi) (fun cs b => hsel j oj cs b hoj) hQ hy h1
      have hun' : ∀ k, (listed.setIfInBounds j true).getD k true = false → listed.getD k true = false := fun k hun => by
        by_cases hjk : j = k
        · subst hjk; exact hjun
        · rw [getD_set_ne true hjk] at hun; exact hun
      refine wpOpIn_mono (fun a' w' h3 => ⟨fun _ => h3.2.1 hkj, ih (listed.setIfInBounds j true) a' w' (hcl.set hj) (fun k ok hk hki hun hno => hfree k ok hk hki (hun' k hun) hno)
        (fun k hks hki hun => hkp k hks hki (hun' k hun)) (ready_mono hr (Ne.symm hji)) h3.1 (h3.2.1 hkj) ?_⟩) h2
      rw [Array.setIfInBounds_comm _ _ hji]
      exact h3.2.2

def wpMidI (F : Fence) (n : Nat) (P : Program) (ops : Array Oper) (Q : Exit → Act → World → Prop) (C : World → Prop) (post : List Oper) : List (Oper × Bool) → Act → World → Prop
  | [], a, w => wpListIn F n P ops Q post a w
  | (o, t) :: r, a, w =>
    if t = true then (if Region.wanted o (yielded ops a.tmps) then o.quiet P a C (fun a' => wpMidI F n P ops Q C post r a' w) else wpMidI F n P ops Q C post r (a.put o.dst undef) w)
    else if Region.wanted o (yielded ops a.tmps) then o.wpIn F n P a w (fun a' w' => C w' ∧ wpMidI F n P ops Q C post r a' w') Q else wpMidI F n P ops Q C post r (a.put o.dst undef) w

theorem wpAnyGI_one (hF : ∀ f, F.fn f) {kp : Nat → Bool} : ∀ (post : List Nat) (listed : Array Bool) (a : Act) (w : World), (∀ i ∈ post, kp i = false) → seqOne md ops post listed = true →
    wpListIn F n P ops Q (post.map fun i => ops.getD i default) a w → wpAnyGI F n P md ops Q C kp post.length listed a w
  | [], listed, a, w, _, hB, h => ⟨by simpa [seqOne] using hB, h⟩
  | i :: r, listed, a, w, hk, hB, h => by
    simp only [seqOne, Bool.and_eq_true, decide_eq_true_eq] at hB
    refine ⟨fun h0 => (by rw [hB.1] at h0; cases h0), fun j hj => ?_⟩
    obtain ⟨_, o, ho, _⟩ := mem_ready.1 hj
    rw [hB.1] at hj
    obtain rfl : j = i := by simpa using hj
    have hg : ops.getD j default = o := by simp [ho]
    simp only [List.map_cons, hg] at h
    unfold Go.wpOpIn
    simp only [ho]
    unfold wpListIn at h
    have hkj := hk j (by simp)
    split
    · rename_i hw
      rw [if_pos hw] at h
      exact Oper.wpIn_mono (fun a' w' h' => ⟨fun e => (by rw [hkj] at e; cases e), wpAnyGI_one hF r _ a' w' (fun i hi => hk i (by simp [hi])) hB.2 h'⟩) h
    · rename_i hw
      rw [if_neg hw] at h
      exact ⟨fun f _ => hF f, fun e => (by rw [hkj] at e; cases e), wpAnyGI_one hF r _ _ w (fun i hi => hk i (by simp [hi])) hB.2 h.2⟩

theorem wpAnyGI_take (hF : ∀ f, F.fn f) (hnd : noDefer ops = true) {post : List Nat} (hs : Region.noSelect ops = true) (hQ : ∀ d c a v w, Q (.panic c) (Act.put a d v) w → Q (.panic c) a w) {w : World} (hC : C w)
    {i fuel : Nat} {listed : Array Bool} {a : Act} {o : Oper} (hg : ops.getD i default = o) (hcl : Closed md ops listed) (hB : takeB md ops post i listed = true) (K : Act → Prop)
    (hK : ∀ v, K (a.put o.dst v) → wpAnyGI F n P md ops Q C (fun j => !post.contains j) fuel (listed.setIfInBounds i true) (a.put o.dst v) w)
    (h : if Region.wanted o (yielded ops a.tmps) then o.quiet P a C K else K (a.put o.dst undef)) :
    wpAnyGI F n P md ops Q C (fun j => !post.contains j) (fuel + 1) listed a w := by
  simp only [takeB, Bool.and_eq_true] at hB
  obtain ⟨⟨⟨hr, hf⟩, hp⟩, hkp⟩ := hB
  have hr' : i ∈ Region.ready md ops listed := by simpa using hr
  obtain ⟨hun, o', ho, hall⟩ := mem_ready.1 hr'
  have hg' : ops.getD i default = o' := by simp [ho]
  obtain rfl : o = o' := hg.symm.trans hg'
  simp only [ho] at hp
  have hy : ∃ v, YieldsIf P ops C o v a ∧ K (a.put o.dst v) := by
    by_cases hw : Region.wanted o (yielded ops a.tmps) = true
    · rw [if_pos hw] at h
      obtain ⟨v, h1, h2⟩ := h
      exact ⟨v, yieldsIf_of hp hw h1, h2⟩
    · rw [if_neg hw] at h
      exact ⟨undef, .inr ⟨by simpa using hw, rfl⟩, h⟩
  obtain ⟨v, hy, h'⟩ := hy
  refine wpAnyGI_first (N := ops.size) hF hnd ho (Region.noSelect_spec hs) (fun c a w => hQ _ c a v w) _ listed a w hcl (Region.free_spec ho hf) (fun j hj hji hjun => ?_) hr' hy hC (hK v h')
  have := List.all_eq_true.1 hkp j (List.mem_range.2 hj)
  simp only [Bool.or_eq_true, beq_iff_eq, hji, false_or, hjun, Bool.false_eq_true] at this
  exact this

theorem wpAnyGI_mid (hF : ∀ f, F.fn f) (hnd : noDefer ops = true) {post : List Nat} (hs : Region.noSelect ops = true) (hQ : ∀ d c a v w, Q (.panic c) (Act.put a d v) w → Q (.panic c) a w) :
    ∀ (mid : List (Nat × Bool)) (listed : Array Bool) (a : Act) (w : World), Closed md ops listed → C w → seqMid md ops post mid listed = true →
    wpMidI F n P ops Q C (post.map fun i => ops.getD i default) (mid.map fun i => (ops.getD i.1 default, i.2)) a w → wpAnyGI F n P md ops Q C (fun j => !post.contains j) (mid.length + post.length) listed a w
  | [], listed, a, w, _, _, hB, h => by
    rw [List.length_nil, Nat.zero_add]
    exact wpAnyGI_one hF post listed a w (fun i hi => by simp [hi]) hB h
  | (i, t) :: r, listed, a, w, hcl, hC, hB, h => by
    rw [List.length_cons, show r.length + 1 + post.length = (r.length + post.length) + 1 by omega]
    simp only [seqMid, Bool.and_eq_true] at hB
    cases t with
    | true =>
      simp only [if_true] at hB
      simp only [List.map_cons, wpMidI, if_true] at h
      exact wpAnyGI_take hF hnd (post := post) hs hQ hC (o := ops.getD i default) rfl hcl hB.1 (fun a' => wpMidI F n P ops Q C (post.map fun i => ops.getD i default) (r.map fun i => (ops.getD i.1 default, i.2)) a' w)
        (fun v h' => wpAnyGI_mid hF hnd hs hQ r _ _ w (hcl.set (takeB_ready hB.1)) hC hB.2 h') h
    | false =>
      simp only [Bool.false_eq_true, if_false, decide_eq_true_eq] at hB
      refine ⟨fun h0 => (by rw [hB.1] at h0; cases h0), fun j hj => ?_⟩
      obtain ⟨_, o, ho, _⟩ := mem_ready.1 hj
      have hj' := hj
      rw [hB.1] at hj
      obtain rfl : j = i := by simpa using hj
      have hg : ops.getD j default = o := by simp [ho]
      simp only [List.map_cons, wpMidI, Bool.false_eq_true, if_false, hg] at h
      unfold Go.wpOpIn
      simp only [ho]
      split
      · rename_i hw
        rw [if_pos hw] at h
        exact Oper.wpIn_mono (fun a' w' h' => ⟨fun _ => h'.1, wpAnyGI_mid hF hnd hs hQ r _ a' w' (hcl.set hj') h'.1 hB.2 h'.2⟩) h
      · rename_i hw
        rw [if_neg hw] at h
        exact ⟨fun f _ => hF f, fun _ => hC, wpAnyGI_mid hF hnd hs hQ r _ _ w (hcl.set hj') hC hB.2 h⟩

theorem wpAnyGI_pre (hF : ∀ f, F.fn f) (hnd : noDefer ops = true) {mid : List (Nat × Bool)} {post : List Nat} (hs : Region.noSelect ops = true) (hQ : ∀ d c a v w, Q (.panic c) (Act.put a d v) w → Q (.panic c) a w) {w : World} (hC : C w) :
    ∀ (pre : List Nat) (listed : Array Bool) (a : Act), Closed md ops listed → seqPre md ops mid post pre listed = true →
    wpQuiet P ops C (fun a' => wpMidI F n P ops Q C (post.map fun i => ops.getD i default) (mid.map fun i => (ops.getD i.1 default, i.2)) a' w) (pre.map fun i => ops.getD i default) a →
    wpAnyGI F n P md ops Q C (fun j => !post.contains j) (pre.length + (mid.length + post.length)) listed a w
  | [], listed, a, hcl, hB, h => by
    rw [List.length_nil, Nat.zero_add]
    exact wpAnyGI_mid hF hnd hs hQ mid listed a w hcl hC hB h
  | i :: r, listed, a, hcl, hB, h => by
    rw [List.length_cons, show r.length + 1 + (mid.length + post.length) = (r.length + (mid.length + post.length)) + 1 by omega]
    simp only [seqPre, Bool.and_eq_true] at hB
    simp only [List.map_cons] at h
    unfold wpQuiet at h
    exact wpAnyGI_take hF hnd (post := post) hs hQ hC (o := ops.getD i default) rfl hcl hB.1 (fun a' => wpQuiet P ops C (fun a' => wpMidI F n P ops Q C (post.map fun i => ops.getD i default) (mid.map fun i => (ops.getD i.1 default, i.2)) a' w) (r.map fun i => ops.getD i default) a')
      (fun v h' => wpAnyGI_pre hF hnd hs hQ hC r _ _ (hcl.set (takeB_ready hB.1)) hB.2 h') h

/-- THE LAW, within a fence -/
theorem wpIn_region_ords {id : Nat} {a : Act} {w : World} {l : List Oper} (pre : List Nat) (mid : List (Nat × Bool)) (post : List Nat) (hF : ∀ f, F.fn f) (hnd : noDefer l.toArray = true) (hm : P.follows .mixedOrders = true) (hB : ordB .any l.toArray pre mid post = true)
    (hQ : ∀ d c a v w, Q (.panic c) (Act.put a d v) w → Q (.panic c) a w)
    (h : wpQuiet P l.toArray (fun w' => ∃ g : Bel w.heap.size w, w' = g.val) (fun a' => wpMidI F n P l.toArray Q (fun w' => ∃ g : Bel w.heap.size w, w' = g.val) (post.map fun i => l.getD i default) (mid.map fun i => (l.getD i.1 default, i.2)) a' w.drew) (pre.map fun i => l.getD i default) a) :
    (Code.region id l.toArray true).wpIn F n P Q a w := by
  simp only [ordB, Bool.and_eq_true, decide_eq_true_eq] at hB
  obtain ⟨⟨hs, hn⟩, hB'⟩ := hB
  refine wpIn_region_any hm (wpAnyIn_of_GI (C := fun w' => ∃ g : Bel w.heap.size w, w' = g.val) (kp := fun j => !post.contains j) _ _ _ _ ?_)
  rw [hn, Nat.add_assoc]
  refine wpAnyGI_pre hF hnd hs hQ (Bel.ex (Below.refl _ w).drew) pre _ a (Closed.start _) (by simpa [hn, Nat.add_assoc] using hB') ?_
  have e : ∀ (xs : List Nat), (xs.map fun i => l.toArray.getD i default) = xs.map fun i => l.getD i default := fun xs => List.map_congr_left fun i _ => by simp [Array.getD_eq_getD_getElem?, List.getD_eq_getElem?_getD]
  have e2 : (mid.map fun i => (l.toArray.getD i.1 default, i.2)) = mid.map fun i => (l.getD i.1 default, i.2) := List.map_congr_left fun i _ => by simp [Array.getD_eq_getD_getElem?, List.getD_eq_getElem?_getD]
  rw [e, e, e2]
  exact h

theorem wpMidI_nil {post : List Oper} {a : Act} {w : World} (h : wpListIn F n P ops Q post a w) : wpMidI F n P ops Q C post [] a w := h
theorem wpMidI_run {B : Nat} {w0 : World} {post : List Oper} {o : Oper} {r : List (Oper × Bool)} {a : Act} {w : World} (hw : Region.wanted o (yielded ops a.tmps) = true)
    (h : ∀ K : Act → World → Prop, (∀ a w', Below B w0 w' → wpMidI F n P ops Q (fun w' => ∃ g : Bel B w0, w' = g.val) post r a w' → K a w') → o.wpIn F n P a w K Q) : wpMidI F n P ops Q (fun w' => ∃ g : Bel B w0, w' = g.val) post ((o, false) :: r) a w := by
  have := h (fun a w' => (∃ g : Bel B w0, w' = g.val) ∧ wpMidI F n P ops Q (fun w' => ∃ g : Bel B w0, w' = g.val) post r a w') (fun a w h1 h2 => ⟨Bel.ex h1, h2⟩)
  simp only [wpMidI, Bool.false_eq_true, if_false, hw, if_true]
  exact this
theorem wpMidI_take {post : List Oper} {o : Oper} {r : List (Oper × Bool)} {a : Act} {w : World} (hw : Region.wanted o (yielded ops a.tmps) = true)
    (h : ∀ K : Act → Prop, (∀ a, wpMidI F n P ops Q C post r a w → K a) → o.quiet P a C K) : wpMidI F n P ops Q C post ((o, true) :: r) a w := by
  simp only [wpMidI, if_true, hw]
  exact h _ fun a h => h
end
attribute [irreducible] wpMidI
end Go.Proofs.YtpompeancmonbaaGreat

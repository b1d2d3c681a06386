/- A range over a map, its entries told as a list; the knots of a hole in their order, walked. Conditions: the hole's bars have sides 1 or -1. -/
import Derived.Test.YtpompeancmonbaaGreatE11
import Derived.Maps.RangeRun
namespace Go.Proofs.YtpompeancmonbaaGreat
open Go.RowKit Go.ChangeMaps
set_option maxHeartbeats 2000000
set_option maxRecDepth 100000

/-! ## a range over a map -/
/-- block r is an iterator over the map in block rk; the keys 'done' have come -/
structure RngAt {κ ν : Type} (w : World) (r rk : Nat) (m : List (κ × ν × Nat)) (c : Nat) (done : List κ) : Prop where
  it : ∃ since seen c0, w.heap[r]? = some (.mapIter (some rk) since seen c0) ∧ (∀ x ∈ m, x.2.2 < since) ∧ (since ≤ c0 ∧ since ≤ c) ∧ seen.size = done.length ∧ ∀ x ∈ m, (x.1 ∈ done ↔ x.2.2 ∈ seen.toList)
  nodup : done.Nodup
  sub : ∀ k ∈ done, k ∈ mkeys m
/-- how many have come, read off the world -/
def seenN (w : World) (r : Nat) : Nat := match w.heap[r]? with
  | some (.mapIter _ _ seen _) => seen.size
  | _ => 0
section
variable {κ ν : Type} {w w' : World} {r rk : Nat} {m : List (κ × ν × Nat)} {done : List κ} {c : Nat} {ek : κ → Value} {ev : ν → Value} {P : Program}
theorem RngAt.seenN (h : RngAt w r rk m c done) : seenN w r = done.length := by
  obtain ⟨since, seen, c0, h1, _, _, h4, _⟩ := h.it
  unfold Go.Proofs.YtpompeancmonbaaGreat.seenN
  rw [h1]
  exact h4
theorem RngAt.lt (h : RngAt w r rk m c done) : r < w.heap.size := by
  obtain ⟨_, _, _, h1, _⟩ := h.it
  exact (Array.getElem?_eq_some_iff.1 h1).1
theorem RngAt.of_block (h : RngAt w r rk m c done) (hb : w'.heap[r]? = w.heap[r]?) : RngAt w' r rk m c done := by
  obtain ⟨since, seen, c0, h1, hr⟩ := h.it
  exact ⟨⟨since, seen, c0, hb.trans h1, hr⟩, h.nodup, h.sub⟩
theorem RngAt.below (h : RngAt w r rk m c done) (hb : Below w.heap.size w w') : RngAt w' r rk m c done := h.of_block (hb.block r h.lt)
theorem RngAt.ne_blk (h : RngAt w r rk m c done) {g : Nat} {t : TypeId} {cs : Array Value} (hB : Blk w g t cs) : g ≠ r := by
  obtain ⟨_, _, _, h1, _⟩ := h.it
  rintro rfl
  unfold Blk at hB
  rw [h1] at hB
  cases hB
theorem RngAt.ne_own (h : RngAt w r rk m c done) {α : Type} {enc : α → List Value} {sz base : Nat} {e : TypeId} {v : Value} {l : List α} (ho : Own enc sz base e w v l) : v.ownBlock ≠ some r := by
  obtain ⟨_, _, _, h1, _⟩ := h.it
  rcases ho.2 with ⟨rfl, _⟩ | ⟨g, cap, cur, rfl, _, hh, _⟩
  · simp [Value.ownBlock]
  · intro he
    have : g = r := by simpa [Value.ownBlock] using he
    subst this
    rw [h1] at hh
    cases hh
theorem Own.ne_blk {α : Type} {enc : α → List Value} {sz base : Nat} {e : TypeId} {v : Value} {l : List α} (ho : Own enc sz base e w v l) {g : Nat} {t : TypeId} {cs : Array Value} (hB : Blk w g t cs) (ht : t ≠ e) : some g ≠ v.ownBlock := by
  rcases ho.2 with ⟨rfl, _⟩ | ⟨g', cap, cur, rfl, _, hh, _⟩
  · simp [Value.ownBlock]
  · intro he
    have : g = g' := by simpa [Value.ownBlock] using he
    subst this
    unfold Blk at hB
    rw [hh] at hB
    cases hB
    exact ht rfl
theorem Own.chg1 {α : Type} {enc : α → List Value} {sz base : Nat} {e : TypeId} {v : Value} {l : List α} (ho : Own enc sz base e w v l) (hc : Chg [r] w w') (hr : v.ownBlock ≠ some r) : Own enc sz base e w' v l :=
  ho.kept (row := some r) ⟨hc.os, hc.tape, hc.output, hc.size, fun k hk hne => hc.block k hk (by simpa using hne)⟩ (.inr hr)
theorem Own.set {α : Type} {enc : α → List Value} {sz base : Nat} {e : TypeId} {v : Value} {l : List α} (ho : Own enc sz base e w v l) {p : Addr} (hp : v.ownBlock ≠ some p.block) (u : Value) : Own enc sz base e (w.setCell p u) v l :=
  ho.kept (row := some p.block) ⟨rfl, rfl, rfl, by simp [World.setCell], fun k _ hne => Below.heap_setCell w p u k (fun e => hne (by rw [e]))⟩ (.inr hp)
theorem run_range_map {k e t : TypeId} (h : MapAt ek ev w rk m c) (ht : P.underlying t = some (.map k e)) :
    (Instr.range t (.map (some rk))).run P w = .ok (.pointer (some ⟨w.heap.size, 0, none⟩)) (w.alloc (.mapIter (some rk) c #[] c)) := by
  simp only [Instr.range, Sem.run_bind, run_underlying ht, Result.andThen_ok, MapKept.run_getObj_map h]
  rfl
theorem RngAt.start (hok : MOk m c) : RngAt (w.alloc (.mapIter (some rk) c #[] c)) w.heap.size rk m c ([] : List κ) :=
  ⟨⟨c, #[], c, heap_alloc_new w _, hok.below, ⟨Nat.le_refl _, Nat.le_refl _⟩, rfl, fun x _ => by simp⟩, List.nodup_nil, fun k hk => by simp at hk⟩
theorem rng_next (hR : RngAt w r rk m c done) (h : MapAt ek ev w rk m c) (hok : MOk m c) (hne : r ≠ rk) :
    ((∀ k ∈ mkeys m, k ∈ done) ∧ ∀ ty, (Instr.next (.pointer (some ⟨r, 0, none⟩)) false ty).run P w = .ok (.tuple #[.bool false]) w) ∨
    ∃ x ∈ m, x.1 ∉ done ∧ ∃ w', (∀ ty, (Instr.next (.pointer (some ⟨r, 0, none⟩)) false ty).run P w = .ok (.tuple #[.bool true, ek x.1, ev x.2.1]) w') ∧
      (Instr.entry (.pointer (some ⟨r, 0, none⟩))).run P w' = .ok (.tuple #[ek x.1, ev x.2.1]) w' ∧ Chg [r] w w' ∧ RngAt w' r rk m c (done ++ [x.1]) := by
  obtain ⟨since, seen, c0, h1, h2, h3, h4, h5⟩ := hR.it
  have hold : ∀ y ∈ (m.map (ment ek ev)).toArray.toList, y.born < since := fun y hy => by
    obtain ⟨x, hx, rfl⟩ := List.mem_map.1 hy
    exact h2 x hx
  have key := fun ty => run_next_at (P := P) w ty r rk since c0 seen _ c h1 h hold h3.1
  by_cases hz : (leftOf (m.map (ment ek ev)).toArray seen).size = 0
  · left
    refine ⟨fun k hk => ?_, fun ty => ?_⟩
    · obtain ⟨x, hx, rfl⟩ := List.mem_map.1 hk
      by_cases hd : x.1 ∈ done
      · exact hd
      · exfalso
        have hns : x.2.2 ∉ seen.toList := fun hs => hd ((h5 x hx).2 hs)
        have : ment ek ev x ∈ leftOf (m.map (ment ek ev)).toArray seen := by
          unfold leftOf
          rw [Array.mem_filter]
          refine ⟨by simpa using ⟨_, _, _, hx, rfl⟩, ?_⟩
          have : seen.contains x.2.2 = false := by
            rw [Bool.eq_false_iff]
            intro hc
            exact hns (by simpa using hc)
          show (!seen.contains (ment ek ev x).born) = true
          rw [show (ment ek ev x).born = x.2.2 from rfl, this]; rfl
        have hp : 0 < (leftOf (m.map (ment ek ev)).toArray seen).size := Array.size_pos_of_mem this
        omega
    · rcases key ty with ⟨_, hr⟩ | ⟨e, he, _⟩
      · exact hr
      · exfalso
        have : 0 < (leftOf (m.map (ment ek ev)).toArray seen).size := Array.size_pos_of_mem (by simpa using he)
        omega
  · right
    rcases key 0 with ⟨h0, _⟩ | ⟨e, he, w1, hw1, hr⟩
    · exact absurd h0 hz
    · have he' : e ∈ leftOf (m.map (ment ek ev)).toArray seen := by simpa using he
      unfold leftOf at he'
      rw [Array.mem_filter] at he'
      obtain ⟨hm, hns⟩ := he'
      obtain ⟨x, hx, rfl⟩ : ∃ x ∈ m, ment ek ev x = e := by simpa using hm
      have hns' : x.2.2 ∉ seen.toList := fun hs => by
        have : seen.contains x.2.2 = true := by simpa using hs
        rw [show (ment ek ev x).born = x.2.2 from rfl, this] at hns
        cases hns
      have hnd : x.1 ∉ done := fun hd => hns' ((h5 x hx).1 hd)
      have hr1 : w1.heap[r]? = some (.mapIter (some rk) since seen c0) := by rcases hw1 with rfl | rfl <;> exact h1
      have hm1 : MapAt ek ev w1 rk m c := by rcases hw1 with rfl | rfl <;> exact h
      have hch : Chg [r] w w1 := by
        rcases hw1 with rfl | rfl
        · exact Chg.refl
        · exact Chg.refl.drew
      have hch2 : Chg [r] w (setBlock w1 r (.mapIter (some rk) since (seen.push x.2.2) c)) := hch.setBlock (by simp) _
      have hrlt : r < w1.heap.size := (Array.getElem?_eq_some_iff.1 hr1).1
      have hit : (setBlock w1 r (.mapIter (some rk) since (seen.push x.2.2) c)).heap[r]? = some (.mapIter (some rk) since (seen.push x.2.2) c) := by
        simp [setBlock, hrlt]
      have hm2 : MapAt ek ev (setBlock w1 r (.mapIter (some rk) since (seen.push x.2.2) c)) rk m c := h.chg hch2 (by simp [Ne.symm hne])
      refine ⟨x, hx, hnd, _, fun ty => hr, ?_, hch2, ⟨⟨since, seen.push x.2.2, c, hit, h2, ⟨h3.2, h3.2⟩, by simp [h4], fun y hy => ?_⟩, ?_, ?_⟩⟩
      · exact run_entry_at _ r rk since seen _ c (ment ek ev x) hit hm2 (by simpa using ⟨_, _, _, hx, rfl⟩) (by
          have := hok.stamps
          simpa [List.map_map, Function.comp_def, ment] using this)
      · have hyx : y.2.2 = x.2.2 → y = x := fun e => by
          have hs := hok.stamps
          obtain ⟨i, hi, rfl⟩ := List.getElem_of_mem hy
          obtain ⟨j, hj, rfl⟩ := List.getElem_of_mem hx
          have := (List.getElem_inj (xs := m.map (·.2.2)) (h₀ := by simpa using hi) (h₁ := by simpa using hj) hs).1 (by simpa using e)
          subst this; rfl
        have hky : y.1 = x.1 → y = x := fun e => by
          have hs := hok.keys
          obtain ⟨i, hi, rfl⟩ := List.getElem_of_mem hy
          obtain ⟨j, hj, rfl⟩ := List.getElem_of_mem hx
          have := (List.getElem_inj (xs := mkeys m) (h₀ := by simpa [mkeys] using hi) (h₁ := by simpa [mkeys] using hj) hs).1 (by simpa [mkeys] using e)
          subst this; rfl
        rw [List.mem_append, List.mem_singleton, h5 y hy]
        simp only [Array.toList_push, List.mem_append, List.mem_singleton]
        constructor
        · rintro (h | h)
          · exact .inl h
          · exact .inr (by rw [hky h])
        · rintro (h | h)
          · exact .inl h
          · exact .inr (by rw [hyx h])
      · rw [List.nodup_append]
        exact ⟨hR.nodup, by simp, fun a ha b hb => by
          obtain rfl : b = x.1 := by simpa using hb
          rintro rfl; exact hnd ha⟩
      · intro k hk
        rcases List.mem_append.1 hk with hk | hk
        · exact hR.sub k hk
        · obtain rfl : k = x.1 := by simpa using hk
          exact List.mem_map_of_mem hx
end

section
variable {ops : Array Oper} {rest : List Oper} {o : Oper} {a : Act} {Q : Exit → Act → World → Prop} {base : Nat} {W : World} {v : Value} {X Y S : Int}
/-- the appends of one element, the place of its block told otherwise -/
theorem wpList_appB1 {l : List Bar} (hown : OwB base W v l) {g : Nat} (hgd : o.guard = none) (s x : Operand) (ho : o.op = .call { callee := .builtin .append, args := #[s, x], argTypes := #[22, 22] })
    (hs : a.eval s = v) (hx : a.eval x = .slice (some ⟨g, 0, none⟩) 1 1) (hg : W.heap.size = g) (hlen : l.length ≤ 1000000) (hbase : base ≤ W.heap.size)
    (h : ∀ v' w', OwB base w' v' (l ++ [(X, Y, S)]) → (W.alloc (.cells #[.int .i64 X, .int .i64 Y, .int .i64 S] 46)).grownBy w' v.ownBlock → wpList Tryz.prog ops Q rest (a.put o.dst v') w') :
    wpList Tryz.prog ops Q (o :: rest) a (W.alloc (.cells #[.int .i64 X, .int .i64 Y, .int .i64 S] 46)) := by
  subst hg
  exact wpList_appB hown hgd s x ho hs hx hlen hbase h
theorem wpList_appK1 {l : List Knot} (hown : OwK base W v l) {g : Nat} (hgd : o.guard = none) (s x : Operand) (ho : o.op = .call { callee := .builtin .append, args := #[s, x], argTypes := #[41, 41] })
    (hs : a.eval s = v) (hx : a.eval x = .slice (some ⟨g, 0, none⟩) 1 1) (hg : W.heap.size = g) (hlen : l.length ≤ 1000000) (hbase : base ≤ W.heap.size)
    (h : ∀ v' w', OwK base w' v' (l ++ [(X, Y)]) → (W.alloc (.cells #[.int .i64 X, .int .i64 Y] 32)).grownBy w' v.ownBlock → wpList Tryz.prog ops Q rest (a.put o.dst v') w') :
    wpList Tryz.prog ops Q (o :: rest) a (W.alloc (.cells #[.int .i64 X, .int .i64 Y] 32)) := by
  subst hg
  exact wpList_appK hown hgd s x ho hs hx hlen hbase h
end
/-! ## the knots of a hole, in their order -/
theorem insK_len (k : Knot) : ∀ l : List Knot, (insK l k).length ≤ l.length + 1
  | [] => by simp [insK]
  | x :: r => by
    unfold insK
    have := insK_len k r
    split
    · simp only [List.length_cons]; omega
    · split <;> simp
theorem holeIn_len : ∀ (D : List Bar) (o : List Knot), (holeIn o D).length ≤ o.length + 2 * D.length
  | [], o => by simp [holeIn]
  | b :: D, o => by
    have h := holeIn_len D (insK (insK o (lowK b)) (uppK b))
    have h1 := insK_len (lowK b) o
    have h2 := insK_len (uppK b) (insK o (lowK b))
    show (holeIn (insK (insK o (lowK b)) (uppK b)) D).length ≤ _
    simp only [List.length_cons]
    omega
theorem holeK_len (D : List Bar) : (holeK D).length ≤ 2 * D.length := by
  have : (holeK D).length ≤ 0 + 2 * D.length := holeIn_len D []
  omega
theorem keys_hole {D : List Bar} (hs : ∀ b ∈ D, Sided b) {mk : List (Knot × Legs × Nat)} (g : ∀ k, mget k mk = legsO D k) (k : Knot) : k ∈ mkeys mk ↔ k ∈ holeK D := by
  have h1 := @mget_none _ _ _ k mk
  rw [holeK_mem hs]
  rw [g k] at h1
  unfold legsO at h1
  by_cases h : legsAt D k = noLegs
  · rw [if_pos h] at h1
    simp at h1
    simp [h, h1]
  · rw [if_neg h] at h1
    simp at h1
    simp [h, h1]
theorem all_any (h rb rk : Nat) (D : List Bar) (w : World) (H : HoleAt w h rb rk D) (hs : ∀ b ∈ D, Sided b) (hlen : D.length ≤ 100000) :
    Calls Tryz.prog 54 #[.pointer (some ⟨h, 0, none⟩)] w fun e w' => ∃ bh bl v, e = .returned (.func (.func 102) #[] #[.pointer (some ⟨bl, 0, none⟩), .pointer (some ⟨bh, 0, none⟩)]) ∧
      w.heap.size ≤ bh ∧ w.heap.size ≤ bl ∧ Blk w' bh 93 #[.pointer (some ⟨h, 0, none⟩)] ∧ Blk w' bl 41 #[v] ∧ OwK w.heap.size w' v (holeK D) ∧ Below w.heap.size w w' := by
  obtain ⟨mk, ck, hm, hok, gk⟩ := H.knots
  have hkeys := Lib.hid (keys_hole hs gk)
  have hHB := H.blk
  have hKN : Hid ((mkeys mk).Nodup) := hok.keys
  have OK := Lib.hid hok
  clear gk hok
  have hkl : Hid (∀ l : List Knot, l.Nodup → (∀ k ∈ l, k ∈ mkeys mk) → l.length ≤ 200000) := fun l hn hsub => by
    have := length_le_of_sub hn (fun k hk => (hkeys.out k).1 (hsub k hk))
    have := holeK_len D
    omega
  have hB0 := Blk.new w 93 #[.pointer (some ⟨h, 0, none⟩)]
  have hB1 := (hB0.alloc (.cells #[.slice none 0 0] 41))
  have hL1 := Blk.new1 w (.cells #[.pointer (some ⟨h, 0, none⟩)] 93) 41 #[.slice none 0 0]
  have fB0 := hB0.facts
  have fB1 := hB1.facts
  have hH1 := hHB.below (bl_alloc (bl_alloc bl_refl (.cells #[.pointer (some ⟨h, 0, none⟩)] 93)) (.cells #[.slice none 0 0] 41))
  have fH1 := hH1.facts
  have hm1 := hm.below (bl_alloc (bl_alloc bl_refl (.cells #[.pointer (some ⟨h, 0, none⟩)] 93)) (.cells #[.slice none 0 0] 41))
  have hrg := run_range_map (P := Tryz.prog) hm1 und_knots
  have hst := RngAt.start (κ := Knot) (ν := Legs) (w := (w.alloc (.cells #[.pointer (some ⟨h, 0, none⟩)] 93)).alloc (.cells #[.slice none 0 0] 41)) (rk := rk) OK.out
  simp only [World.size_alloc] at hrg hst
  go_enter Tryz.func54, Tryz.ntmps54
  go_wp2
  have hL2 := hL1.alloc (.mapIter (some rk) ck #[] ck)
  have hB2 := hB1.alloc (.mapIter (some rk) ck #[] ck)
  clear hrg hm1 fH1 fB1 fB0
  go_loopw [] (fun wr => ∃ done v, Blk wr w.heap.size 93 #[.pointer (some ⟨h, 0, none⟩)] ∧ Blk wr (w.heap.size + 1) 41 #[v] ∧ OwK w.heap.size wr v done ∧ RngAt wr (w.heap.size + 1 + 1) rk mk ck done ∧ Below w.heap.size w wr) (fun wr => mk.length - seenN wr (w.heap.size + 1 + 1))
  case atStart => exact ⟨[], _, hB2, hL2, Own.nil_, hst, by (repeat (first | exact bl_refl | assumption | (apply bl_then; assumption) | refine bl_alloc ?_ _ | refine bl_drew ?_ | refine bl_drewN ?_ _))⟩
  case round =>
    clear hL2 hB2 hst hB0 hB1 hL1 hH1
    obtain ⟨done, v, hBh, hBl, hown, hR, hbw⟩ := hrel
    have hmr := hm.below hbw
    have hne : w.heap.size + 1 + 1 ≠ rk := by have := hm.lt; omega
    have hdl := hkl.out done hR.nodup hR.sub
    rcases rng_next (P := Tryz.prog) hR hmr OK.out hne with ⟨hall, hrun⟩ | ⟨⟨⟨kx, ky⟩, L, st⟩, hx, hnd, w1, hrun, hen, hch, hR1⟩
    · have fBl := hBl.facts
      have HA := Lib.hid hall
      clear hall
      go_wp2_with (go_at_call 100; refine (sortK_any done _ hown (by omega)).mono ?_; rintro e w2 ⟨rfl, hown2, hgr2⟩)
      have hbw2 := own_step hown hgr2 hbw
      have hE : srtK done = holeK D := sorted_unique kltP_irr kltP_tr (srtK_sorted hR.nodup) (holeK_sorted D) fun x => by
        rw [srtK_mem, ← hkeys.out]
        exact ⟨hR.sub x, HA.out x⟩
      go_ret
      exact ⟨w.heap.size, w.heap.size + 1, v, rfl, Nat.le_refl _, by omega, hBh.grown hgr2 (hown.ne_blk hBh (by decide)), hBl.grown hgr2 (hown.ne_blk hBl (by decide)), by rw [← hE]; exact hown2, hbw2⟩
    · have hown1 := hown.chg1 hch (hR.ne_own hown)
      have hBl1 := hBl.chg hch (by simp)
      have hBh1 := hBh.chg hch (by simp; omega)
      have hen' : (Instr.entry (.pointer (some ⟨w.heap.size + 1 + 1, 0, none⟩))).run Tryz.prog w1 = .ok (.tuple #[.agg #[.int .i64 kx, .int .i64 ky], lv L]) w1 := hen
      have hrun' : ∀ ty, (Instr.next (.pointer (some ⟨w.heap.size + 1 + 1, 0, none⟩)) false ty).run Tryz.prog wr = .ok (.tuple #[.bool true, .agg #[.int .i64 kx, .int .i64 ky], lv L]) w1 := hrun
      have hbw1 : Below w.heap.size w w1 := ((Chg.of_below hbw).trans (hch.mono (S' := [w.heap.size + 1 + 1]) (by simp))).below (by simp; omega) (Nat.le_refl _)
      clear hen hrun
      have hR1' := hR1.below (bl_alloc bl_refl (.cells #[.int .i64 kx, .int .i64 ky] 32))
      have hownA := hown1.alloc (.cells #[.int .i64 kx, .int .i64 ky] 32)
      have hBlA := hBl1.alloc (.cells #[.int .i64 kx, .int .i64 ky] 32)
      have hBhA := hBh1.alloc (.cells #[.int .i64 kx, .int .i64 ky] 32)
      have fBlA := hBlA.facts
      have hbA : Below w.heap.size w (w1.alloc (.cells #[.int .i64 kx, .int .i64 ky] 32)) := by (repeat (first | exact bl_refl | assumption | (apply bl_then; assumption) | refine bl_alloc ?_ _ | refine bl_drew ?_ | refine bl_drewN ?_ _))
      go_wp2_with (at_builtin; refine wpList_appK1 hownA rfl _ _ rfl rfl rfl (by simp) (by omega) (Below.size hbA) ?_; intro v2 w2 hown2 hgr2; obtain ⟨A2, c2, rfl⟩ := hown2.shape; have fBl2 := ((hBlA.alloc _).grown hgr2 (hownA.ne_blk hBlA (by decide))).facts)
      have hbw2 := own_step hownA hgr2 (by (repeat (first | exact bl_refl | assumption | (apply bl_then; assumption) | refine bl_alloc ?_ _ | refine bl_drew ?_ | refine bl_drewN ?_ _)))
      simp only [List.length_append, List.length_cons, List.length_nil, Nat.zero_add] at hown2
      have hBl2 := (hBlA.alloc (.cells #[.int .i64 kx, .int .i64 ky] 32)).grown hgr2 (hownA.ne_blk hBlA (by decide))
      have hBh2 := (hBhA.alloc (.cells #[.int .i64 kx, .int .i64 ky] 32)).grown hgr2 (hownA.ne_blk hBhA (by decide))
      have hR2 := hR1'.below (bl_alloc bl_refl (.cells #[.int .i64 kx, .int .i64 ky] 32))
      have hR3 := hR2.of_block (hgr2.block _ hR2.lt (Ne.symm (hR2.ne_own (hownA.alloc _))))
      have hR4 := hR3.of_block (Below.heap_setCell w2 ⟨w.heap.size + 1, 0, none⟩ (.slice A2 (done.length + 1) c2) (w.heap.size + 1 + 1) (by simp))
      have hlt : done.length < mk.length := by
        have := length_le_of_sub hR1.nodup hR1.sub
        rw [mkeys_length, List.length_append] at this
        simp only [List.length_cons, List.length_nil] at this
        omega
      have hne2 := Ne.symm (hown2.ne_blk hBl2 (by decide))
      go_roundw
      case rel => exact ⟨done ++ [(kx, ky)], _, hBh2.far (by simp) _, hBl2.set_ 0 _, hown2.set hne2 _, hR4, bl_set hbw2 (by simp) _⟩
      case measure => rw [hR4.seenN, hR.seenN]; simp; omega
end Go.Proofs.YtpompeancmonbaaGreat

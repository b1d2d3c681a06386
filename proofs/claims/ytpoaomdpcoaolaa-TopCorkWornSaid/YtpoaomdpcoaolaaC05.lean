/- Lists told apart, a net copied, short lists, the first error: the reference's small functions, walked. Conditions: the slices read as lists. -/
import Derived.Test.YtpoaomdpcoaolaaC04
import Derived.Maps.RangeRun
import Derived.Test.YtpoaomdpcoaolaaC03
import Derived.Test.YtpoaomdpcoaolaaC02
namespace Go.Proofs.Ytpoaomdpcoaolaa
open Go.RowKit
set_option maxHeartbeats 2000000
set_option maxRecDepth 100000

theorem same_drop {α : Type} [DecidableEq α] {l r : List α} {k : Nat} (hlen : l.length = r.length) (hk : k < l.length) : decide (l.drop k = r.drop k) = (decide (l[k] = r[k]'(hlen ▸ hk)) && decide (l.drop (k + 1) = r.drop (k + 1))) := by
  rw [List.drop_eq_getElem_cons hk, List.drop_eq_getElem_cons (l := r) (show k < r.length by omega)]
  rw [Bool.eq_iff_iff, Bool.and_eq_true, decide_eq_true_eq, decide_eq_true_eq, decide_eq_true_eq, List.cons.injEq]
theorem sameBars_any {v u : Value} (l r : List Bar) (w : World) (h : SlB w v l) (h' : SlB w u r) : Calls Try.prog 18 #[v, u] w (RV w (.bool (decide (l = r)))) := by
  obtain ⟨A, c, rfl, hlc, hcm, h⟩ := h
  obtain ⟨A', c', rfl, hlc', hcm', h'⟩ := h'
  have hl : l.length ≤ maxLen := Nat.le_trans hlc hcm
  have hl' : r.length ≤ maxLen := Nat.le_trans hlc' hcm'
  unfold maxLen at hl hl'
  by_cases hlen : l.length = r.length
  · have he : (l.length != r.length) = false := by simp [hlen]
    have he2 : ((l.length : Int) != (r.length : Int)) = false := by simp [hlen]
    go_enter Try.func18, Try.ntmps18
    go_wp2
    go_loopw [5] (fun i wr => ∃ k : Nat, k ≤ l.length ∧ i = .int .i64 k ∧ Hid (decide (l = r) = decide (l.drop k = r.drop k)) ∧ Below w.heap.size w wr) (fun i _ => l.length - (intOf i).toNat)
    case atStart => exact ⟨0, Nat.zero_le _, rfl, by simp [Hid], by (repeat (first | exact bl_refl | assumption | (apply bl_then; assumption) | refine bl_alloc ?_ _ | refine bl_drew ?_ | refine bl_drewN ?_ _))⟩
    case round =>
      obtain ⟨k, hk, rfl, H, hbw⟩ := hrel
      by_cases hlt : k < l.length
      · have hr := h.below hbw
        have hr' := h'.below hbw
        obtain ⟨b, off, rfl, hb, e0, e1, e2⟩ := hr.bar hlt
        obtain ⟨b', off', rfl, hb', e0', e1', e2'⟩ := hr'.bar (hlen ▸ hlt)
        have HD := Lib.hid (same_drop hlen hlt)
        have hlt' : k < r.length := hlen ▸ hlt
        obtain ⟨g, hg⟩ : ∃ g, beqB l[k].1 l[k].2.1 l[k].2.2 r[k].1 r[k].2.1 r[k].2.2 = g := ⟨_, rfl⟩
        have hg' : decide (l[k] = r[k]) = g := hg
        cases g
        · go_wp2
          refine wp_region_ords [0, 1, 2, 3, 4, 5, 6, 7, 8] [] [] (by kernel_rfl) (by kernel_rfl) (fun d _ _ _ _ h => by cases d <;> exact h) ?_
          simp only [List.map_cons, List.map_nil, List.getD_cons_zero, List.getD_cons_succ]
          repeat (go_big_quiet_step (fail))
          refine wpQuiet_nil ?_
          refine wpMid_nil ?_
          go_wp2
          go_ret
          exact ⟨ret_bool (by rw [H.out, HD.out, hg']; rfl), by (repeat (first | exact bl_refl | assumption | (apply bl_then; assumption) | refine bl_alloc ?_ _ | refine bl_drew ?_ | refine bl_drewN ?_ _))⟩
        · go_wp2
          refine wp_region_ords [0, 1, 2, 3, 4, 5, 6, 7, 8] [] [] (by kernel_rfl) (by kernel_rfl) (fun d _ _ _ _ h => by cases d <;> exact h) ?_
          simp only [List.map_cons, List.map_nil, List.getD_cons_zero, List.getD_cons_succ]
          repeat (go_big_quiet_step (fail))
          refine wpQuiet_nil ?_
          refine wpMid_nil ?_
          go_wp2
          go_roundw
          case rel => exact ⟨k + 1, by omega, by go_num, by rw [H.out, HD.out, hg']; rfl, by (repeat (first | exact bl_refl | assumption | (apply bl_then; assumption) | refine bl_alloc ?_ _ | refine bl_drew ?_ | refine bl_drewN ?_ _))⟩
          case measure => simp [intOf]; omega
      · have hkl : k = l.length := by omega
        go_wp2
        go_ret
        refine ⟨ret_bool ?_, by (repeat (first | exact bl_refl | assumption | (apply bl_then; assumption) | refine bl_alloc ?_ _ | refine bl_drew ?_ | refine bl_drewN ?_ _))⟩
        rw [H.out, hkl, List.drop_length, hlen, List.drop_length]; rfl
  · have he2 : ((l.length : Int) != (r.length : Int)) = true := by simp; omega
    have hd : Hid (decide (l = r) = false) := by simp [Hid]; rintro rfl; exact hlen rfl
    go_enter Try.func18, Try.ntmps18
    go_wp2
    go_ret
    exact ⟨ret_bool hd.out.symm, by (repeat (first | exact bl_refl | assumption | (apply bl_then; assumption) | refine bl_alloc ?_ _ | refine bl_drew ?_ | refine bl_drewN ?_ _))⟩
theorem rnet_sl {v : Value} (l : List Bar) (w : World) (h : SlB w v l) : Calls Try.prog 15 #[v] w (RV w (.int .i64 (netE l))) := by
  obtain ⟨A, c, rfl, hlc, hcm, h⟩ := h
  exact rnet_any l A c w (Nat.le_trans hlc hcm) h
abbrev SlI := Sl ic 1
theorem rfirst_any (l : List Int) (A : Option Addr) (c : Nat) (w : World) (hl : l.length ≤ maxLen) (h : Rd ic 1 w A l) :
    Calls Try.prog 29 #[.slice A l.length c] w (RV w (.int .i64 (firstI l))) := by
  unfold maxLen at hl
  go_enter Try.func29, Try.ntmps29
  go_wp2
  go_loop [3] (fun i => ∃ k : Nat, k ≤ l.length ∧ i = .int .i64 k ∧ Hid (firstI l = firstI (l.drop k))) (fun i => l.length - (intOf i).toNat)
  case atStart => exact ⟨0, Nat.zero_le _, rfl, rfl⟩
  case round =>
    obtain ⟨k, hk, rfl, H⟩ := hrel
    by_cases hlt : k < l.length
    · obtain ⟨b, off, rfl, hb, hc⟩ := h.int hlt
      have hd := Lib.hid (firstI_drop hlt)
      go_wp2
      · have hne : (l[k] != 0) = true := by assumption
        go_ret
        refine ⟨ret_int ?_, bl_refl⟩
        rw [H.out, hd.out, if_neg (by simpa using hne)]
      · have hne : (l[k] != 0) = false := by assumption
        go_round
        case rel => exact ⟨k + 1, by omega, by go_num, by rw [H.out, hd.out, if_pos (by simpa using hne)]; rfl⟩
        case measure => simp [intOf]; omega
    · have hkl : k = l.length := by omega
      go_wp2
      go_ret
      refine ⟨ret_int ?_, bl_refl⟩
      rw [H.out, hkl, List.drop_length]; rfl
theorem rrange_any (n lo hi : Int) (w : World) : Calls Try.prog 31 #[.int .i64 n, .int .i64 lo, .int .i64 hi] w (RV w (.int .i64 (withinI n lo hi))) := by
  go_enter Try.func31, Try.ntmps31
  go_wp2
  all_goals go_ret
  all_goals refine ⟨ret_int ?_, bl_refl⟩
  all_goals
    simp [withinI, whenI, *]
    try omega
/-- a list has at most n bars, or too many -/
def shortB (l : List Bar) (n : Int) : Bool := decide ((l.length : Int) ≤ n ∨ 4096 < l.length ∧ l.length ≤ 4098)
end Go.Proofs.Ytpoaomdpcoaolaa

/- A range over a map, its entries told as a list. Conditions: none. -/
namespace Go.Proofs.Ytpoaomdpcoaolaa
open Go.RowKit Go.ChangeMaps
set_option maxHeartbeats 2000000
set_option maxRecDepth 100000

/-! ## a range over a map -/
/-- block r is an iterator over the map in block rk; the keys 'done' have come -/
structure RngAt {κ ν : Type} (w : World) (r rk : Nat) (m : List (κ × ν × Nat)) (c : Nat) (done : List κ) : Prop where
  it : ∃ since seen c0, w.heap[r]? = some (.mapIter (some rk) since seen c0) ∧ (∀ x ∈ m, x.2.2 < since) ∧ (since ≤ c0 ∧ since ≤ c) ∧ seen.size = done.length ∧ ∀ x ∈ m, (x.1 ∈ done ↔ x.2.2 ∈ seen.toList)
  nodup : done.Nodup
  sub : ∀ k ∈ done, k ∈ mkeys m
/-- how many have come, read off the world -/
def seenN (w : World) (r : Nat) : Nat := match w.heap[r]? with
  | some (.mapIter _ _ seen _) => seen.size
  | _ => 0
section
variable {κ ν : Type} {w w' : World} {r rk : Nat} {m : List (κ × ν × Nat)} {done : List κ} {c : Nat} {ek : κ → Value} {ev : ν → Value} {P : Program}
theorem RngAt.seenN (h : RngAt w r rk m c done) : seenN w r = done.length := by
  obtain ⟨since, seen, c0, h1, _, _, h4, _⟩ := h.it
  unfold Go.Proofs.Ytpoaomdpcoaolaa.seenN
  rw [h1]
  exact h4
theorem RngAt.lt (h : RngAt w r rk m c done) : r < w.heap.size := by
  obtain ⟨_, _, _, h1, _⟩ := h.it
  exact (Array.getElem?_eq_some_iff.1 h1).1
theorem RngAt.of_block (h : RngAt w r rk m c done) (hb : w'.heap[r]? = w.heap[r]?) : RngAt w' r rk m c done := by
  obtain ⟨since, seen, c0, h1, hr⟩ := h.it
  exact ⟨⟨since, seen, c0, hb.trans h1, hr⟩, h.nodup, h.sub⟩
theorem RngAt.below (h : RngAt w r rk m c done) (hb : Below w.heap.size w w') : RngAt w' r rk m c done := h.of_block (hb.block r h.lt)
theorem RngAt.ne_blk (h : RngAt w r rk m c done) {g : Nat} {t : TypeId} {cs : Array Value} (hB : Blk w g t cs) : g ≠ r := by
  obtain ⟨_, _, _, h1, _⟩ := h.it
  rintro rfl
  unfold Blk at hB
  rw [h1] at hB
  cases hB
theorem RngAt.ne_own (h : RngAt w r rk m c done) {α : Type} {enc : α → List Value} {sz base : Nat} {e : TypeId} {v : Value} {l : List α} (ho : Own enc sz base e w v l) : v.ownBlock ≠ some r := by
  obtain ⟨_, _, _, h1, _⟩ := h.it
  rcases ho.2 with ⟨rfl, _⟩ | ⟨g, cap, cur, rfl, _, hh, _⟩
  · simp [Value.ownBlock]
  · intro he
    have : g = r := by simpa [Value.ownBlock] using he
    subst this
    rw [h1] at hh
    cases hh
theorem Own.ne_blk {α : Type} {enc : α → List Value} {sz base : Nat} {e : TypeId} {v : Value} {l : List α} (ho : Own enc sz base e w v l) {g : Nat} {t : TypeId} {cs : Array Value} (hB : Blk w g t cs) (ht : t ≠ e) : some g ≠ v.ownBlock := by
  rcases ho.2 with ⟨rfl, _⟩ | ⟨g', cap, cur, rfl, _, hh, _⟩
  · simp [Value.ownBlock]
  · intro he
    have : g = g' := by simpa [Value.ownBlock] using he
    subst this
    unfold Blk at hB
    rw [hh] at hB
    cases hB
    exact ht rfl
theorem Own.chg1 {α : Type} {enc : α → List Value} {sz base : Nat} {e : TypeId} {v : Value} {l : List α} (ho : Own enc sz base e w v l) (hc : Chg [r] w w') (hr : v.ownBlock ≠ some r) : Own enc sz base e w' v l :=
  ho.kept (row := some r) ⟨hc.os, hc.tape, hc.output, hc.size, fun k hk hne => hc.block k hk (by simpa using hne)⟩ (.inr hr)
theorem Own.set {α : Type} {enc : α → List Value} {sz base : Nat} {e : TypeId} {v : Value} {l : List α} (ho : Own enc sz base e w v l) {p : Addr} (hp : v.ownBlock ≠ some p.block) (u : Value) : Own enc sz base e (w.setCell p u) v l :=
  ho.kept (row := some p.block) ⟨rfl, rfl, rfl, by simp [World.setCell], fun k _ hne => Below.heap_setCell w p u k (fun e => hne (by rw [e]))⟩ (.inr hp)
theorem run_range_map {k e t : TypeId} (h : MapAt ek ev w rk m c) (ht : P.underlying t = some (.map k e)) :
    (Instr.range t (.map (some rk))).run P w = .ok (.pointer (some ⟨w.heap.size, 0, none⟩)) (w.alloc (.mapIter (some rk) c #[] c)) := by
  simp only [Instr.range, Sem.run_bind, run_underlying ht, Result.andThen_ok, MapKept.run_getObj_map h]
  rfl
theorem RngAt.start (hok : MOk m c) : RngAt (w.alloc (.mapIter (some rk) c #[] c)) w.heap.size rk m c ([] : List κ) :=
  ⟨⟨c, #[], c, heap_alloc_new w _, hok.below, ⟨Nat.le_refl _, Nat.le_refl _⟩, rfl, fun x _ => by simp⟩, List.nodup_nil, fun k hk => by simp at hk⟩
theorem rng_next (hR : RngAt w r rk m c done) (h : MapAt ek ev w rk m c) (hok : MOk m c) (hne : r ≠ rk) :
    ((∀ k ∈ mkeys m, k ∈ done) ∧ ∀ ty, (Instr.next (.pointer (some ⟨r, 0, none⟩)) false ty).run P w = .ok (.tuple #[.bool false]) w) ∨
    ∃ x ∈ m, x.1 ∉ done ∧ ∃ w', (∀ ty, (Instr.next (.pointer (some ⟨r, 0, none⟩)) false ty).run P w = .ok (.tuple #[.bool true, ek x.1, ev x.2.1]) w') ∧
      (Instr.entry (.pointer (some ⟨r, 0, none⟩))).run P w' = .ok (.tuple #[ek x.1, ev x.2.1]) w' ∧ Chg [r] w w' ∧ RngAt w' r rk m c (done ++ [x.1]) := by
  obtain ⟨since, seen, c0, h1, h2, h3, h4, h5⟩ := hR.it
  have hold : ∀ y ∈ (m.map (ment ek ev)).toArray.toList, y.born < since := fun y hy => by
    obtain ⟨x, hx, rfl⟩ := List.mem_map.1 hy
    exact h2 x hx
  have key := fun ty => run_next_at (P := P) w ty r rk since c0 seen _ c h1 h hold h3.1
  by_cases hz : (leftOf (m.map (ment ek ev)).toArray seen).size = 0
  · left
    refine ⟨fun k hk => ?_, fun ty => ?_⟩
    · obtain ⟨x, hx, rfl⟩ := List.mem_map.1 hk
      by_cases hd : x.1 ∈ done
      · exact hd
      · exfalso
        have hns : x.2.2 ∉ seen.toList := fun hs => hd ((h5 x hx).2 hs)
        have : ment ek ev x ∈ leftOf (m.map (ment ek ev)).toArray seen := by
          unfold leftOf
          rw [Array.mem_filter]
          refine ⟨by simpa using ⟨_, _, _, hx, rfl⟩, ?_⟩
          have : seen.contains x.2.2 = false := by
            rw [Bool.eq_false_iff]
            intro hc
            exact hns (by simpa using hc)
          show (!seen.contains (ment ek ev x).born) = true
          rw [show (ment ek ev x).born = x.2.2 from rfl, this]; rfl
        have hp : 0 < (leftOf (m.map (ment ek ev)).toArray seen).size := Array.size_pos_of_mem this
        omega
    · rcases key ty with ⟨_, hr⟩ | ⟨e, he, _⟩
      · exact hr
      · exfalso
        have : 0 < (leftOf (m.map (ment ek ev)).toArray seen).size := Array.size_pos_of_mem (by simpa using he)
        omega
  · right
    rcases key 0 with ⟨h0, _⟩ | ⟨e, he, w1, hw1, hr⟩
    · exact absurd h0 hz
    · have he' : e ∈ leftOf (m.map (ment ek ev)).toArray seen := by simpa using he
      unfold leftOf at he'
      rw [Array.mem_filter] at he'
      obtain ⟨hm, hns⟩ := he'
      obtain ⟨x, hx, rfl⟩ : ∃ x ∈ m, ment ek ev x = e := by simpa using hm
      have hns' : x.2.2 ∉ seen.toList := fun hs => by
        have : seen.contains x.2.2 = true := by simpa using hs
        rw [show (ment ek ev x).born = x.2.2 from rfl, this] at hns
        cases hns
      have hnd : x.1 ∉ done := fun hd => hns' ((h5 x hx).1 hd)
      have hr1 : w1.heap[r]? = some (.mapIter (some rk) since seen c0) := by rcases hw1 with rfl | rfl <;> exact h1
      have hm1 : MapAt ek ev w1 rk m c := by rcases hw1 with rfl | rfl <;> exact h
      have hch : Chg [r] w w1 := by
        rcases hw1 with rfl | rfl
        · exact Chg.refl
        · exact Chg.refl.drew
      have hch2 : Chg [r] w (setBlock w1 r (.mapIter (some rk) since (seen.push x.2.2) c)) := hch.setBlock (by simp) _
      have hrlt : r < w1.heap.size := (Array.getElem?_eq_some_iff.1 hr1).1
      have hit : (setBlock w1 r (.mapIter (some rk) since (seen.push x.2.2) c)).heap[r]? = some (.mapIter (some rk) since (seen.push x.2.2) c) := by
        simp [setBlock, hrlt]
      have hm2 : MapAt ek ev (setBlock w1 r (.mapIter (some rk) since (seen.push x.2.2) c)) rk m c := h.chg hch2 (by simp [Ne.symm hne])
      refine ⟨x, hx, hnd, _, fun ty => hr, ?_, hch2, ⟨⟨since, seen.push x.2.2, c, hit, h2, ⟨h3.2, h3.2⟩, by simp [h4], fun y hy => ?_⟩, ?_, ?_⟩⟩
      · exact run_entry_at _ r rk since seen _ c (ment ek ev x) hit hm2 (by simpa using ⟨_, _, _, hx, rfl⟩) (by
          have := hok.stamps
          simpa [List.map_map, Function.comp_def, ment] using this)
      · have hyx : y.2.2 = x.2.2 → y = x := fun e => by
          have hs := hok.stamps
          obtain ⟨i, hi, rfl⟩ := List.getElem_of_mem hy
          obtain ⟨j, hj, rfl⟩ := List.getElem_of_mem hx
          have := (List.getElem_inj (xs := m.map (·.2.2)) (h₀ := by simpa using hi) (h₁ := by simpa using hj) hs).1 (by simpa using e)
          subst this; rfl
        have hky : y.1 = x.1 → y = x := fun e => by
          have hs := hok.keys
          obtain ⟨i, hi, rfl⟩ := List.getElem_of_mem hy
          obtain ⟨j, hj, rfl⟩ := List.getElem_of_mem hx
          have := (List.getElem_inj (xs := mkeys m) (h₀ := by simpa [mkeys] using hi) (h₁ := by simpa [mkeys] using hj) hs).1 (by simpa [mkeys] using e)
          subst this; rfl
        rw [List.mem_append, List.mem_singleton, h5 y hy]
        simp only [Array.toList_push, List.mem_append, List.mem_singleton]
        constructor
        · rintro (h | h)
          · exact .inl h
          · exact .inr (by rw [hky h])
        · rintro (h | h)
          · exact .inl h
          · exact .inr (by rw [hyx h])
      · rw [List.nodup_append]
        exact ⟨hR.nodup, by simp, fun a ha b hb => by
          obtain rfl : b = x.1 := by simpa using hb
          rintro rfl; exact hnd ha⟩
      · intro k hk
        rcases List.mem_append.1 hk with hk | hk
        · exact hR.sub k hk
        · obtain rfl : k = x.1 := by simpa using hk
          exact List.mem_map_of_mem hx
end

end Go.Proofs.Ytpoaomdpcoaolaa

/- The laws' helpers, walked. Conditions: none. -/
namespace Go.Proofs.Ytpoaomdpcoaolaa
open Go.RowKit Go.ChangeMaps
set_option maxHeartbeats 4000000
set_option maxRecDepth 100000

/-- does an answer agree with the reference: the error e and nothing, or no error and the same bars -/
def netB (l : List Bar) (E e : Int) (m : List Bar) : Bool := if e ≠ 0 then (decide (l = []) && E == e) else (E == 0 && decide (l = m))
end Go.Proofs.Ytpoaomdpcoaolaa

/- Bars put into a list in their order, each once; the reference's lists sorted, walked. Conditions: the slices read as lists. -/
namespace Go.Proofs.Ytpoaomdpcoaolaa
open Go.RowKit Go.ChangeMaps
set_option maxHeartbeats 4000000
set_option maxRecDepth 100000

section
variable {α : Type} {enc : α → List Value} {sz bytes : Nat} {P : Program} {t e : TypeId} {w : World}
theorem op_app {o : Oper} {a : Act} {K : Act → World → Prop} {Q : Exit → Act → World → Prop} (E : Elem P t e sz bytes) (henc : ∀ x, (enc x).length = sz) (hone : ∀ x, ∀ u ∈ enc x, u.oneCell' = true) (s x : Operand)
    (ho : o.op = .call { callee := .builtin .append, args := #[s, x], argTypes := #[t, t] }) (base : Nat) (v u : Value) (l r : List α) (hs : a.eval s = v) (hx : a.eval x = u) (hown : Own enc sz base e w v l) (hu : Sl enc sz w u r)
    (h63 : l.length + r.length ≤ maxLen) (hb : (l.length + r.length) * bytes ≤ 140737488355328) (hbase : base ≤ w.heap.size)
    (h : ∀ v' w', Own enc sz base e w' v' (l ++ r) → w.grownBy w' v.ownBlock → K (a.put o.dst v') w') : o.wp P a w K Q := by
  obtain ⟨v', w', hr, h2, h3⟩ := run_app E henc hone base o.type v u l r hown hu h63 hb hbase
  unfold Oper.wp
  simp [execOp, ho, resolve, invoke, builtin, hs, hx, hr, Result.andThen]
  exact h v' w' h2 h3
end
theorem opB_app {o : Oper} {a : Act} {K : Act → World → Prop} {Q : Exit → Act → World → Prop} {w : World} {base : Nat} {v u : Value} {l r : List Bar} (hown : OwB base w v l) (hu : SlB w u r) (s x : Operand)
    (ho : o.op = .call { callee := .builtin .append, args := #[s, x], argTypes := #[22, 22] }) (hs : a.eval s = v) (hx : a.eval x = u) (hlen : l.length + r.length ≤ 1000000) (hbase : base ≤ w.heap.size)
    (h : ∀ v' w', OwB base w' v' (l ++ r) → w.grownBy w' v.ownBlock → K (a.put o.dst v') w') : o.wp Try.prog a w K Q :=
  op_app bar_elem bc_len bc_one s x ho base v u l r hs hx hown hu (by simp [maxLen]; omega) (by omega) hbase h
theorem opK_app {o : Oper} {a : Act} {K : Act → World → Prop} {Q : Exit → Act → World → Prop} {w : World} {base : Nat} {v u : Value} {l r : List Knot} (hown : OwK base w v l) (hu : SlK w u r) (s x : Operand)
    (ho : o.op = .call { callee := .builtin .append, args := #[s, x], argTypes := #[36, 36] }) (hs : a.eval s = v) (hx : a.eval x = u) (hlen : l.length + r.length ≤ 1000000) (hbase : base ≤ w.heap.size)
    (h : ∀ v' w', OwK base w' v' (l ++ r) → w.grownBy w' v.ownBlock → K (a.put o.dst v') w') : o.wp Try.prog a w K Q :=
  op_app knot_elem kc_len kc_one s x ho base v u l r hs hx hown hu (by simp [maxLen]; omega) (by omega) hbase h

theorem Blk.one_bar {w : World} {g : Nat} {x y s : Int} (h : Blk w g 50 #[.int .i64 x, .int .i64 y, .int .i64 s]) : SlB w (.slice (some ⟨g, 0, none⟩) 1 1) [(x, y, s)] := by
  refine ⟨_, 1, rfl, by simp, by simp [maxLen], fun i b hb => ?_⟩
  match i, hb with
  | 0, hb =>
    obtain rfl : (x, y, s) = b := by simpa using hb
    refine ⟨_, 0, rfl, h.lt, fun j u hj => ?_⟩
    rw [h.cell]
    simpa [bc] using hj
theorem Blk.one_knot {w : World} {g : Nat} {x y : Int} (h : Blk w g 30 #[.int .i64 x, .int .i64 y]) : SlK w (.slice (some ⟨g, 0, none⟩) 1 1) [(x, y)] := by
  refine ⟨_, 1, rfl, by simp, by simp [maxLen], fun i b hb => ?_⟩
  match i, hb with
  | 0, hb =>
    obtain rfl : (x, y) = b := by simpa using hb
    refine ⟨_, 0, rfl, h.lt, fun j u hj => ?_⟩
    rw [h.cell]
    simpa [kc] using hj
section
variable {α : Type} {enc : α → List Value} {sz n c : Nat} {w : World} {A : Option Addr} {l : List α}
theorem sl_pre (h : Rd enc sz w A l) {k : Nat} (hk : k ≤ l.length) (hkc : k ≤ c) (hc : c ≤ maxLen) : Sl enc sz w (.slice A k c) (l.take k) :=
  ⟨A, c, by rw [List.length_take, Nat.min_eq_left hk], by rw [List.length_take, Nat.min_eq_left hk]; exact hkc, hc, fun i x hx => h i x (by
    rw [List.getElem?_take] at hx
    split at hx
    · exact hx
    · cases hx)⟩
theorem sl_post (h : Rd enc sz w A l) (hlc : l.length ≤ c) {k : Nat} (hk : k ≤ l.length) (hc : c ≤ maxLen) : Sl enc sz w (.slice (if c = k then A else Option.map (fun x => x.add (k * sz)) A) (l.length - k) (c - k)) (l.drop k) := by
  refine ⟨_, _, by rw [List.length_drop], by rw [List.length_drop]; omega, by omega, fun i x hx => ?_⟩
  rw [List.getElem?_drop] at hx
  have hlt := (List.getElem?_eq_some_iff.1 hx).1
  obtain ⟨b, off, rfl, hb, hc2⟩ := h (k + i) x hx
  rw [if_neg (by omega)]
  refine ⟨b, off + k * sz, ?_, hb, fun j u hu => ?_⟩
  · simp only [Option.map_some, Addr.add]
    split
    · rename_i h0; rw [h0, Nat.add_zero]
    · rfl
  · have := hc2 j u hu
    rwa [show off + (k + i) * sz + j = off + k * sz + i * sz + j by rw [Nat.add_mul]; omega] at this
theorem sl_postS {b off : Nat} (h : Rd enc sz w (some ⟨b, off, none⟩) l) (hlc : l.length ≤ c) {k : Nat} (hc : c ≤ maxLen) : Sl enc sz w (.slice (some ⟨b, off + k * sz, none⟩) (l.length - k) (c - k)) (l.drop k) := by
  refine ⟨_, _, by rw [List.length_drop], by rw [List.length_drop]; omega, by omega, fun i x hx => ?_⟩
  rw [List.getElem?_drop] at hx
  obtain ⟨b', off', e', hb, hc2⟩ := h (k + i) x hx
  obtain ⟨rfl, rfl⟩ : b = b' ∧ off = off' := by simpa using e'
  refine ⟨b, off + k * sz, rfl, hb, fun j u hu => ?_⟩
  have := hc2 j u hu
  rwa [show off + (k + i) * sz + j = off + k * sz + i * sz + j by rw [Nat.add_mul]; omega] at this
end

section
variable {ops : Array Oper} {rest : List Oper} {o : Oper} {a : Act} {Q : Exit → Act → World → Prop} {base : Nat} {W : World} {v : Value} {X Y S : Int}
/-- the appends of one element, the place of its block told otherwise -/
theorem wpList_appB1 {l : List Bar} (hown : OwB base W v l) {g : Nat} (hgd : o.guard = none) (s x : Operand) (ho : o.op = .call { callee := .builtin .append, args := #[s, x], argTypes := #[22, 22] })
    (hs : a.eval s = v) (hx : a.eval x = .slice (some ⟨g, 0, none⟩) 1 1) (hg : W.heap.size = g) (hlen : l.length ≤ 1000000) (hbase : base ≤ W.heap.size)
    (h : ∀ v' w', OwB base w' v' (l ++ [(X, Y, S)]) → (W.alloc (.cells #[.int .i64 X, .int .i64 Y, .int .i64 S] 50)).grownBy w' v.ownBlock → wpList Try.prog ops Q rest (a.put o.dst v') w') :
    wpList Try.prog ops Q (o :: rest) a (W.alloc (.cells #[.int .i64 X, .int .i64 Y, .int .i64 S] 50)) := by
  subst hg
  exact wpList_appB hown hgd s x ho hs hx hlen hbase h
theorem wpList_appK1 {l : List Knot} (hown : OwK base W v l) {g : Nat} (hgd : o.guard = none) (s x : Operand) (ho : o.op = .call { callee := .builtin .append, args := #[s, x], argTypes := #[36, 36] })
    (hs : a.eval s = v) (hx : a.eval x = .slice (some ⟨g, 0, none⟩) 1 1) (hg : W.heap.size = g) (hlen : l.length ≤ 1000000) (hbase : base ≤ W.heap.size)
    (h : ∀ v' w', OwK base w' v' (l ++ [(X, Y)]) → (W.alloc (.cells #[.int .i64 X, .int .i64 Y] 30)).grownBy w' v.ownBlock → wpList Try.prog ops Q rest (a.put o.dst v') w') :
    wpList Try.prog ops Q (o :: rest) a (W.alloc (.cells #[.int .i64 X, .int .i64 Y] 30)) := by
  subst hg
  exact wpList_appK hown hgd s x ho hs hx hlen hbase h
end
theorem insK_len (k : Knot) : ∀ l : List Knot, (insK l k).length ≤ l.length + 1
  | [] => by simp [insK]
  | x :: r => by
    unfold insK
    have := insK_len k r
    split
    · simp only [List.length_cons]; omega
    · split <;> simp
theorem insK_drop {l : List Knot} {e : Knot} {k : Nat} (hk : k < l.length) : insK (l.drop k) e = if kltP l[k] e then l[k] :: insK (l.drop (k + 1)) e else if l[k] = e then l.drop k else e :: l.drop k := by
  rw [List.drop_eq_getElem_cons hk, insK]
/-- a bar put into a list in its place, once -/
def insU : List Bar → Bar → List Bar
  | [], k => [k]
  | x :: r, k => if bltP x k then x :: insU r k else if x = k then x :: r else k :: x :: r
theorem bltP_tr (a b c : Bar) (h : bltP a b) (h' : bltP b c) : bltP a c := bltP_trans h h'
theorem insU_mem (k y : Bar) : ∀ l, y ∈ insU l k ↔ y = k ∨ y ∈ l
  | [] => by simp [insU]
  | x :: r => by
    unfold insU
    split
    · rw [List.mem_cons, insU_mem k y r, List.mem_cons]
      constructor
      · rintro (h | h | h) <;> simp [h]
      · rintro (h | h | h) <;> simp [h]
    · split
      · rename_i h
        subst h
        simp
      · simp
theorem insU_sorted (k : Bar) : ∀ {l : List Bar}, l.Pairwise bltP → (insU l k).Pairwise bltP
  | [], _ => by simp [insU]
  | x :: r, h => by
    obtain ⟨h1, h2⟩ := List.pairwise_cons.1 h
    unfold insU
    split
    · rename_i hx
      refine List.pairwise_cons.2 ⟨fun y hy => ?_, insU_sorted k h2⟩
      rcases (insU_mem k y r).1 hy with rfl | hy
      · exact hx
      · exact h1 y hy
    · rename_i hx
      split
      · exact h
      · rename_i hne
        refine List.pairwise_cons.2 ⟨fun y hy => ?_, h⟩
        have := bltP_tri hx hne
        rcases List.mem_cons.1 hy with rfl | hy
        · exact this
        · exact bltP_tr _ _ _ this (h1 y hy)
theorem insU_len (k : Bar) : ∀ l : List Bar, (insU l k).length ≤ l.length + 1
  | [] => by simp [insU]
  | x :: r => by
    unfold insU
    have := insU_len k r
    split
    · simp only [List.length_cons]; omega
    · split <;> simp
theorem insU_drop {l : List Bar} {e : Bar} {k : Nat} (hk : k < l.length) : insU (l.drop k) e = if bltP l[k] e then l[k] :: insU (l.drop (k + 1)) e else if l[k] = e then l.drop k else e :: l.drop k := by
  rw [List.drop_eq_getElem_cons hk, insU]
/-- bars in their order, each once -/
def setIn (o l : List Bar) : List Bar := l.foldl insU o
def setB (l : List Bar) : List Bar := setIn [] l
theorem setIn_mem (k : Bar) : ∀ (l o : List Bar), k ∈ setIn o l ↔ k ∈ o ∨ k ∈ l
  | [], o => by simp [setIn]
  | b :: l, o => by
    show k ∈ setIn (insU o b) l ↔ _
    rw [setIn_mem k l, insU_mem, List.mem_cons]
    constructor
    · rintro ((h | h) | h)
      · exact .inr (.inl h)
      · exact .inl h
      · exact .inr (.inr h)
    · rintro (h | h | h)
      · exact .inl (.inr h)
      · exact .inl (.inl h)
      · exact .inr h
theorem setIn_sorted : ∀ (l o : List Bar), o.Pairwise bltP → (setIn o l).Pairwise bltP
  | [], _, h => h
  | _ :: l, _, h => setIn_sorted l _ (insU_sorted _ h)
theorem setIn_len : ∀ (l o : List Bar), (setIn o l).length ≤ o.length + l.length
  | [], o => by simp [setIn]
  | b :: l, o => by
    have h := setIn_len l (insU o b)
    have h1 := insU_len b o
    show (setIn (insU o b) l).length ≤ _
    simp only [List.length_cons]
    omega
theorem setIn_take {l o : List Bar} {i : Nat} (hi : i < l.length) : setIn o (l.take (i + 1)) = insU (setIn o (l.take i)) l[i] := by
  unfold setIn
  rw [List.take_succ_eq_append_getElem hi, List.foldl_append]; rfl
theorem setB_mem (l : List Bar) (x : Bar) : x ∈ setB l ↔ x ∈ l := by unfold setB; rw [setIn_mem]; simp
theorem setB_sorted (l : List Bar) : (setB l).Pairwise bltP := setIn_sorted l [] List.Pairwise.nil
theorem setB_len (l : List Bar) : (setB l).length ≤ l.length := by have := setIn_len l []; simpa [setB] using this
theorem setB_of_sorted {l : List Bar} (h : l.Pairwise bltP) : setB l = l := sortedB_eq (setB_sorted l) h (setB_mem l)
theorem setB_srt {l : List Bar} (hn : l.Nodup) : setB l = srtB l := sortedB_eq (setB_sorted l) (srtB_sorted hn) fun x => by rw [setB_mem, srtB_mem]

theorem rsorted_any {v : Value} (l : List Bar) (w : World) (h : SlB w v l) (hlen : l.length ≤ 100000) : Calls Try.prog 19 #[v] w (RB w (setB l)) := by
  obtain ⟨A, c, rfl, hlc, hcm, h⟩ := h
  go_enter Try.func19, Try.ntmps19
  go_wp2
  go_loopw [3, 4] (fun o i wr => ∃ k : Nat, k ≤ l.length ∧ i = .int .i64 k ∧ OwB w.heap.size wr o (setIn [] (l.take k)) ∧ Below w.heap.size w wr) (fun _ i _ => l.length - (intOf i).toNat)
  case atStart => exact ⟨0, Nat.zero_le _, rfl, Own.nil_, by (repeat (first | exact bl_refl | assumption | (apply bl_then; assumption) | refine bl_alloc ?_ _ | refine bl_drew ?_ | refine bl_drewN ?_ _))⟩
  case round =>
    obtain ⟨k, hk, rfl, hO, hbw⟩ := hrel
    obtain ⟨wo, rfl⟩ : ∃ x, x = wr := ⟨_, rfl⟩
    by_cases hlt : k < l.length
    · have HTK := Lib.hid (setIn_take (o := []) hlt)
      have hll := setIn_len (l.take k) []
      have htk : (l.take k).length ≤ 100000 := by simp; omega
      obtain ⟨acc, hacc⟩ : ∃ acc, setIn [] (l.take k) = acc := ⟨_, rfl⟩
      rw [hacc] at hO HTK hll
      have hll2 : acc.length ≤ 200000 := by simp only [List.length_nil] at hll; omega
      clear hll hacc htk
      have hr := h.below hbw
      obtain ⟨b, off, rfl, hb, e0, e1, e2⟩ := hr.bar hlt
      obtain ⟨⟨x, y, s⟩, hx⟩ : ∃ z, l[k] = z := ⟨_, rfl⟩
      have HX := Lib.hid hx
      rw [hx] at e0 e1 e2 HTK
      simp only at e0 e1 e2
      clear hx
      obtain ⟨A3, c3, rfl⟩ := hO.shape
      obtain ⟨A3', c3', he3, hlc3, hcm3, hr3⟩ := hO.rd bc_len
      obtain ⟨rfl, rfl⟩ : A3 = A3' ∧ c3 = c3' := by simpa using he3
      clear he3
      go_wp2
      go_loopw [5] (fun i wz => ∃ k2 : Nat, k2 ≤ acc.length ∧ i = .int .i64 k2 ∧ Hid (insU acc (x, y, s) = acc.take k2 ++ insU (acc.drop k2) (x, y, s)) ∧ Below wo.heap.size wo wz) (fun i _ => acc.length - (intOf i).toNat)
      case atStart => exact ⟨0, Nat.zero_le _, rfl, by simp [Hid], by (repeat (first | exact bl_refl | assumption | (apply bl_then; assumption) | refine bl_alloc ?_ _ | refine bl_drew ?_ | refine bl_drewN ?_ _))⟩
      case round =>
        obtain ⟨k2, hk2, rfl, H, hbz⟩ := hrel
        clear e0 e1 e2
        have hrl := hr.below hbz
        have hrz := hr3.below hbz
        obtain ⟨hbz0, e0, e1, e2⟩ := hrl.barAt hlt
        rw [HX.out] at e0 e1 e2
        simp only at e0 e1 e2
        have hkc3 : k2 ≤ c3 := by omega
        by_cases hq : ∃ hlt : k2 < acc.length, barLt acc[k2].1 acc[k2].2.1 acc[k2].2.2 x y s = true
        · obtain ⟨hlt2, hg⟩ := hq
          obtain ⟨b3, off3, rfl, hb3, d0, d1, d2⟩ := hrz.bar hlt2
          have HD : Hid (insU (acc.drop k2) (x, y, s) = acc[k2] :: insU (acc.drop (k2 + 1)) (x, y, s)) := by
            unfold Hid
            rw [insU_drop hlt2, if_pos (show bltP acc[k2] (x, y, s) from hg)]
          have he := fun W => rless_any acc[k2].1 acc[k2].2.1 acc[k2].2.2 x y s W
          rw [hg] at he
          clear hg
          go_wp2
          refine wp_region_ords [0, 1, 2, 3, 4, 5, 6, 7, 8, 9, 10, 11, 12] [] [13, 14] (by kernel_rfl) (by kernel_rfl) (fun d _ _ _ _ h => by cases d <;> exact h) ?_
          simp only [List.map_cons, List.map_nil, List.getD_cons_zero, List.getD_cons_succ]
          repeat (go_big_quiet_step (fail))
          refine wpQuiet_nil ?_
          refine wpMid_nil ?_
          go_wp2_with (go_at_call 39; refine (he _).mono ?_; rintro e w4 ⟨rfl, hb4⟩)
          go_roundw
          case rel => exact ⟨k2 + 1, by omega, by go_num, by unfold Hid; rw [H.out, HD.out, List.take_succ_eq_append_getElem hlt2, List.append_assoc]; rfl, by (repeat (first | exact bl_refl | assumption | (apply bl_then; assumption) | refine bl_alloc ?_ _ | refine bl_drew ?_ | refine bl_drewN ?_ _))⟩
          case measure => simp [intOf]; omega
        · by_cases hlt2 : k2 < acc.length
          · have hg : barLt acc[k2].1 acc[k2].2.1 acc[k2].2.2 x y s = false := by
              cases hg : barLt acc[k2].1 acc[k2].2.1 acc[k2].2.2 x y s
              · rfl
              · exact absurd ⟨hlt2, hg⟩ hq
            obtain ⟨b3, off3, rfl, hb3, d0, d1, d2⟩ := hrz.bar hlt2
            have he := fun W => rless_any acc[k2].1 acc[k2].2.1 acc[k2].2.2 x y s W
            rw [hg] at he
            have HD : Hid (insU acc (x, y, s) = acc.take k2 ++ if acc[k2] = (x, y, s) then acc.drop k2 else (x, y, s) :: acc.drop k2) := by
              unfold Hid
              rw [H.out, insU_drop hlt2, if_neg (show ¬ bltP acc[k2] (x, y, s) from by unfold bltP; rw [hg]; simp)]
            have hkf : ((k2 : Int) == (acc.length : Int)) = false := by simp; omega
            obtain ⟨q, hqq⟩ : ∃ q, beqB acc[k2].1 acc[k2].2.1 acc[k2].2.2 x y s = q := ⟨_, rfl⟩
            clear hq H hg
            cases q
            · have HE : Hid (insU acc (x, y, s) = (acc.take k2 ++ [(x, y, s)]) ++ acc.drop k2) := by
                unfold Hid
                rw [HD.out, if_neg (fun h => by have h2 : beqB acc[k2].1 acc[k2].2.1 acc[k2].2.2 x y s = true := beqB_true.2 h; rw [hqq] at h2; cases h2), List.append_assoc]; rfl
              clear HD
              go_wp2
              refine wp_region_ords [0, 1, 2, 3, 4, 5, 6, 7, 8, 9, 10, 11, 12] [] [13, 14] (by kernel_rfl) (by kernel_rfl) (fun d _ _ _ _ h => by cases d <;> exact h) ?_
              simp only [List.map_cons, List.map_nil, List.getD_cons_zero, List.getD_cons_succ]
              repeat (go_big_quiet_step (fail))
              refine wpQuiet_nil ?_
              refine wpMid_nil ?_
              go_wp2_with (go_at_call 39; refine (he _).mono ?_; rintro e w4 ⟨rfl, hb4⟩)
              replace hb4 : Below wo.heap.size wo w4 := by (repeat (first | exact bl_refl | assumption | (apply bl_then; assumption) | refine bl_alloc ?_ _ | refine bl_drew ?_ | refine bl_drewN ?_ _))
              have hOw := hO.below hb4
              have hbw4 : Below w.heap.size w w4 := by (repeat (first | exact bl_refl | assumption | (apply bl_then; assumption) | refine bl_alloc ?_ _ | refine bl_drew ?_ | refine bl_drewN ?_ _))
              have hrl4 := hr.below hb4
              have hrw := hr3.below hb4
              obtain ⟨_, g0, g1, g2⟩ := hrl4.barAt hlt
              rw [HX.out] at g0 g1 g2
              simp only at g0 g1 g2
              obtain ⟨_, f0, f1, f2⟩ := hrw.barAt hlt2
              go_wp2
              refine wp_region_ords [0, 1, 2, 3, 4, 5, 6, 7, 8, 9, 10, 11, 12, 13, 14] [] [] (by kernel_rfl) (by kernel_rfl) (fun d _ _ _ _ h => by cases d <;> exact h) ?_
              simp only [List.map_cons, List.map_nil, List.getD_cons_zero, List.getD_cons_succ]
              repeat (go_big_quiet_step (fail))
              refine wpQuiet_nil ?_
              refine wpMid_nil ?_
              go_wp2
              obtain ⟨w7, hw7⟩ : ∃ X, w4.drew = X := ⟨_, rfl⟩
              have hb7 : Below w4.heap.size w4 w7 := by rw [← hw7]; exact bl_drew bl_refl
              rw [hw7]
              have hT4 := (sl_pre hrw hk2 hkc3 hcm3).below hb7
              have hD4 := (sl_postS (k := k2) hrw hlc3 hcm3).below hb7
              obtain ⟨_, i0, i1, i2⟩ := (hrl4.below hb7).barAt hlt
              rw [HX.out] at i0 i1 i2
              simp only at i0 i1 i2
              have hb47 := hb7.size
              have hbb7 : b < w7.heap.size := by omega
              have hbw7 : Below w.heap.size w w7 := bl_then hb7 hbw4
              refine wp_region_tree [1, 2, 3, 5, 6, 7, 8, 11, 12, 13] (.alt (.br 0 (.alt (.br 4 (.alt (.br 9 (.alt (.br 10 (.fin) (.stop))) (.stop))) (.br 9 (.alt (.br 4 (.alt (.br 10 (.fin) (.stop))) (.stop))) (.stop)))) (.br 9 (.alt (.br 0 (.alt (.br 4 (.alt (.br 10 (.fin) (.stop))) (.stop))) (.stop))) (.stop)))) [14, 15] (by kernel_rfl) (by kernel_rfl) (fun d _ _ _ _ h => by cases d <;> exact h) ?_
              simp only [List.map_cons, List.map_nil, List.getD_cons_zero, List.getD_cons_succ]
              repeat (go_big_quiet_step (fail))
              refine wpQuiet_nil ?_
              refine wpTree_alt (wpTree_br rfl rfl ?_ (wpTree_br rfl rfl ?_ wpTree_stop))
              have own1 := (Own.empty bc 3 w7.drew 50).base_mono (show w7.heap.size ≤ (w7.drew).heap.size by simp <;> omega)
              intro K hK
              go_simp
              refine hK _ _ (by (repeat (first | exact bl_refl | assumption | (apply bl_then; assumption) | refine bl_alloc ?_ _ | refine bl_drew ?_ | refine bl_drewN ?_ _))) ?_
              clear hK K
              refine wpTree_alt (wpTree_br rfl rfl ?_ (wpTree_br rfl rfl ?_ wpTree_stop))
              intro K hK
              simp only [Array.getD_eq_getD_getElem?, List.getElem?_toArray, List.getElem?_cons_succ, List.getElem?_cons_zero, Option.getD_some]
              refine opB_app own1 (hT4.below (by (repeat (first | exact bl_refl | assumption | (apply bl_then; assumption) | refine bl_alloc ?_ _ | refine bl_drew ?_ | refine bl_drewN ?_ _)))) _ _ rfl rfl rfl (by simp; omega) (Below.size (by (repeat (first | exact bl_refl | assumption | (apply bl_then; assumption) | refine bl_alloc ?_ _ | refine bl_drew ?_ | refine bl_drewN ?_ _)))) ?_
              intro v6 w6 own6 hg6
              have hb6 := own_step own1 hg6 (by (repeat (first | exact bl_refl | assumption | (apply bl_then; assumption) | refine bl_alloc ?_ _ | refine bl_drew ?_ | refine bl_drewN ?_ _)))
              refine hK _ _ hb6 ?_
              clear hK K
              have one1 := Blk.new w6 50 #[.int .i64 x, .int .i64 y, .int .i64 s]
              refine wpTree_alt (wpTree_br rfl rfl ?_ wpTree_stop)
              intro K hK
              go_simp
              refine hK _ _ (by (repeat (first | exact bl_refl | assumption | (apply bl_then; assumption) | refine bl_alloc ?_ _ | refine bl_drew ?_ | refine bl_drewN ?_ _))) ?_
              clear hK K
              refine wpTree_alt (wpTree_br rfl rfl ?_ wpTree_stop)
              intro K hK
              simp only [Array.getD_eq_getD_getElem?, List.getElem?_toArray, List.getElem?_cons_succ, List.getElem?_cons_zero, Option.getD_some]
              refine opB_app (own6.alloc (.cells #[.int .i64 x, .int .i64 y, .int .i64 s] 50)) one1.one_bar _ _ rfl rfl rfl (by simp; omega) (Below.size (by (repeat (first | exact bl_refl | assumption | (apply bl_then; assumption) | refine bl_alloc ?_ _ | refine bl_drew ?_ | refine bl_drewN ?_ _)))) ?_
              intro v9 w9 own9 hg9
              have hb9 := own_step (own6.alloc (.cells #[.int .i64 x, .int .i64 y, .int .i64 s] 50)) hg9 (by (repeat (first | exact bl_refl | assumption | (apply bl_then; assumption) | refine bl_alloc ?_ _ | refine bl_drew ?_ | refine bl_drewN ?_ _)))
              refine hK _ _ hb9 ?_
              clear hK K
              refine wpTree_fin ?_
              rotate_left
              have one1 := Blk.new (w7.drew.alloc (.cells #[] 50)) 50 #[.int .i64 x, .int .i64 y, .int .i64 s]
              simp only [World.size_alloc] at one1
              intro K hK
              go_simp
              refine hK _ _ (by (repeat (first | exact bl_refl | assumption | (apply bl_then; assumption) | refine bl_alloc ?_ _ | refine bl_drew ?_ | refine bl_drewN ?_ _))) ?_
              clear hK K
              refine wpTree_alt (wpTree_br rfl rfl ?_ wpTree_stop)
              intro K hK
              simp only [Array.getD_eq_getD_getElem?, List.getElem?_toArray, List.getElem?_cons_succ, List.getElem?_cons_zero, Option.getD_some]
              refine opB_app (own1.alloc (.cells #[.int .i64 x, .int .i64 y, .int .i64 s] 50)) (hT4.below (by (repeat (first | exact bl_refl | assumption | (apply bl_then; assumption) | refine bl_alloc ?_ _ | refine bl_drew ?_ | refine bl_drewN ?_ _)))) _ _ rfl rfl rfl (by simp; omega) (Below.size (by (repeat (first | exact bl_refl | assumption | (apply bl_then; assumption) | refine bl_alloc ?_ _ | refine bl_drew ?_ | refine bl_drewN ?_ _)))) ?_
              intro v6 w6 own6 hg6
              have hb6 := own_step (own1.alloc (.cells #[.int .i64 x, .int .i64 y, .int .i64 s] 50)) hg6 (by (repeat (first | exact bl_refl | assumption | (apply bl_then; assumption) | refine bl_alloc ?_ _ | refine bl_drew ?_ | refine bl_drewN ?_ _)))
              refine hK _ _ hb6 ?_
              clear hK K
              refine wpTree_alt (wpTree_br rfl rfl ?_ wpTree_stop)
              intro K hK
              simp only [Array.getD_eq_getD_getElem?, List.getElem?_toArray, List.getElem?_cons_succ, List.getElem?_cons_zero, Option.getD_some]
              refine opB_app own6 (one1.grown hg6 (by simp [Value.ownBlock])).one_bar _ _ rfl rfl rfl (by simp; omega) (Below.size (by (repeat (first | exact bl_refl | assumption | (apply bl_then; assumption) | refine bl_alloc ?_ _ | refine bl_drew ?_ | refine bl_drewN ?_ _)))) ?_
              intro v9 w9 own9 hg9
              have hb9 := own_step own6 hg9 (by (repeat (first | exact bl_refl | assumption | (apply bl_then; assumption) | refine bl_alloc ?_ _ | refine bl_drew ?_ | refine bl_drewN ?_ _)))
              refine hK _ _ hb9 ?_
              clear hK K
              refine wpTree_fin ?_
              rotate_left
              have one1 := Blk.new w7.drew 50 #[.int .i64 x, .int .i64 y, .int .i64 s]
              intro K hK
              go_simp
              refine hK _ _ (by (repeat (first | exact bl_refl | assumption | (apply bl_then; assumption) | refine bl_alloc ?_ _ | refine bl_drew ?_ | refine bl_drewN ?_ _))) ?_
              clear hK K
              refine wpTree_alt (wpTree_br rfl rfl ?_ wpTree_stop)
              have own1 := (Own.empty bc 3 (w7.drew.alloc (.cells #[.int .i64 x, .int .i64 y, .int .i64 s] 50)) 50).base_mono (show w7.heap.size ≤ ((w7.drew.alloc (.cells #[.int .i64 x, .int .i64 y, .int .i64 s] 50))).heap.size by simp <;> omega)
              simp only [World.size_alloc] at own1
              intro K hK
              go_simp
              refine hK _ _ (by (repeat (first | exact bl_refl | assumption | (apply bl_then; assumption) | refine bl_alloc ?_ _ | refine bl_drew ?_ | refine bl_drewN ?_ _))) ?_
              clear hK K
              refine wpTree_alt (wpTree_br rfl rfl ?_ wpTree_stop)
              intro K hK
              simp only [Array.getD_eq_getD_getElem?, List.getElem?_toArray, List.getElem?_cons_succ, List.getElem?_cons_zero, Option.getD_some]
              refine opB_app own1 (hT4.below (by (repeat (first | exact bl_refl | assumption | (apply bl_then; assumption) | refine bl_alloc ?_ _ | refine bl_drew ?_ | refine bl_drewN ?_ _)))) _ _ rfl rfl rfl (by simp; omega) (Below.size (by (repeat (first | exact bl_refl | assumption | (apply bl_then; assumption) | refine bl_alloc ?_ _ | refine bl_drew ?_ | refine bl_drewN ?_ _)))) ?_
              intro v6 w6 own6 hg6
              have hb6 := own_step own1 hg6 (by (repeat (first | exact bl_refl | assumption | (apply bl_then; assumption) | refine bl_alloc ?_ _ | refine bl_drew ?_ | refine bl_drewN ?_ _)))
              refine hK _ _ hb6 ?_
              clear hK K
              refine wpTree_alt (wpTree_br rfl rfl ?_ wpTree_stop)
              intro K hK
              simp only [Array.getD_eq_getD_getElem?, List.getElem?_toArray, List.getElem?_cons_succ, List.getElem?_cons_zero, Option.getD_some]
              refine opB_app own6 ((one1.alloc (.cells #[] 50)).grown hg6 (by simp [Value.ownBlock])).one_bar _ _ rfl rfl rfl (by simp; omega) (Below.size (by (repeat (first | exact bl_refl | assumption | (apply bl_then; assumption) | refine bl_alloc ?_ _ | refine bl_drew ?_ | refine bl_drewN ?_ _)))) ?_
              intro v9 w9 own9 hg9
              have hb9 := own_step own6 hg9 (by (repeat (first | exact bl_refl | assumption | (apply bl_then; assumption) | refine bl_alloc ?_ _ | refine bl_drew ?_ | refine bl_drewN ?_ _)))
              refine hK _ _ hb9 ?_
              clear hK K
              refine wpTree_fin ?_
              rotate_left
              all_goals
                refine wpList_appBS own9 (hD4.below hb9) rfl _ _ rfl rfl rfl (by simp; omega) hb9.size ?_
                intro v8 w8 own8 hg8
                have hb8 := own_step own9 hg8 hb9
                have hO8 : OwB w.heap.size w8 v8 (insU acc (x, y, s)) := by rw [HE.out]; simpa using own8.base_mono (Below.size hbw7)
                have hbw8 : Below w.heap.size w w8 := bl_then hb8 hbw7
                clear own8 hg8 own9 own6 own1 hb9 hb6 hg9
                go_wp2
                all_goals go_roundw
                all_goals first | exact ⟨k + 1, by omega, by go_num, by rw [HTK.out]; exact hO8, hbw8⟩ | (simp [intOf]; omega)
            · have HE : Hid (insU acc (x, y, s) = acc) := by
                unfold Hid
                rw [HD.out, if_pos (beqB_true.1 hqq), List.take_append_drop]
              clear HD
              go_wp2
              refine wp_region_ords [0, 1, 2, 3, 4, 5, 6, 7, 8, 9, 10, 11, 12] [] [13, 14] (by kernel_rfl) (by kernel_rfl) (fun d _ _ _ _ h => by cases d <;> exact h) ?_
              simp only [List.map_cons, List.map_nil, List.getD_cons_zero, List.getD_cons_succ]
              repeat (go_big_quiet_step (fail))
              refine wpQuiet_nil ?_
              refine wpMid_nil ?_
              go_wp2_with (go_at_call 39; refine (he _).mono ?_; rintro e w4 ⟨rfl, hb4⟩)
              replace hb4 : Below wo.heap.size wo w4 := by (repeat (first | exact bl_refl | assumption | (apply bl_then; assumption) | refine bl_alloc ?_ _ | refine bl_drew ?_ | refine bl_drewN ?_ _))
              have hOw := hO.below hb4
              have hbw4 : Below w.heap.size w w4 := by (repeat (first | exact bl_refl | assumption | (apply bl_then; assumption) | refine bl_alloc ?_ _ | refine bl_drew ?_ | refine bl_drewN ?_ _))
              have hrl4 := hr.below hb4
              have hrw := hr3.below hb4
              obtain ⟨_, g0, g1, g2⟩ := hrl4.barAt hlt
              rw [HX.out] at g0 g1 g2
              simp only at g0 g1 g2
              obtain ⟨_, f0, f1, f2⟩ := hrw.barAt hlt2
              go_wp2
              refine wp_region_ords [0, 1, 2, 3, 4, 5, 6, 7, 8, 9, 10, 11, 12, 13, 14] [] [] (by kernel_rfl) (by kernel_rfl) (fun d _ _ _ _ h => by cases d <;> exact h) ?_
              simp only [List.map_cons, List.map_nil, List.getD_cons_zero, List.getD_cons_succ]
              repeat (go_big_quiet_step (fail))
              refine wpQuiet_nil ?_
              refine wpMid_nil ?_
              go_wp2
              go_roundw
              case rel => exact ⟨k + 1, by omega, by go_num, by rw [HTK.out, HE.out]; exact hOw.drew, by (repeat (first | exact bl_refl | assumption | (apply bl_then; assumption) | refine bl_alloc ?_ _ | refine bl_drew ?_ | refine bl_drewN ?_ _))⟩
              case measure => simp [intOf]; omega
          · have HE : Hid (insU acc (x, y, s) = (acc.take k2 ++ [(x, y, s)]) ++ acc.drop k2) := by
              unfold Hid
              rw [H.out, List.drop_eq_nil_of_le (by omega), List.append_nil]; rfl
            have hkf : ((k2 : Int) == (acc.length : Int)) = true := by simp; omega
            clear hq H
            go_wp2
            refine wp_region_ords [0, 1, 2, 3, 4, 5, 6, 7, 8, 9, 10, 11, 12] [] [13, 14] (by kernel_rfl) (by kernel_rfl) (fun d _ _ _ _ h => by cases d <;> exact h) ?_
            simp only [List.map_cons, List.map_nil, List.getD_cons_zero, List.getD_cons_succ]
            repeat (go_big_quiet_step (fail))
            refine wpQuiet_nil ?_
            refine wpMid_nil ?_
            go_wp2
            obtain ⟨w4, hw4⟩ : ∃ X, wr.drew = X := ⟨_, rfl⟩
            have hb4 : Below wo.heap.size wo w4 := by rw [← hw4]; exact bl_drew hbz
            rw [hw4]
            have hbw4 : Below w.heap.size w w4 := by (repeat (first | exact bl_refl | assumption | (apply bl_then; assumption) | refine bl_alloc ?_ _ | refine bl_drew ?_ | refine bl_drewN ?_ _))
            have hrl4 := hr.below hb4
            have hrw := hr3.below hb4
            go_wp2
            refine wp_region_ords [0, 1, 2, 3, 4, 5, 6, 7, 8, 9, 10, 11, 12, 13, 14] [] [] (by kernel_rfl) (by kernel_rfl) (fun d _ _ _ _ h => by cases d <;> exact h) ?_
            simp only [List.map_cons, List.map_nil, List.getD_cons_zero, List.getD_cons_succ]
            repeat (go_big_quiet_step (fail))
            refine wpQuiet_nil ?_
            refine wpMid_nil ?_
            go_wp2
            obtain ⟨w7, hw7⟩ : ∃ X, w4.drew = X := ⟨_, rfl⟩
            have hb7 : Below w4.heap.size w4 w7 := by rw [← hw7]; exact bl_drew bl_refl
            rw [hw7]
            have hT4 := (sl_pre hrw hk2 hkc3 hcm3).below hb7
            have hD4 := (sl_post hrw hlc3 hk2 hcm3).below hb7
            obtain ⟨_, i0, i1, i2⟩ := (hrl4.below hb7).barAt hlt
            rw [HX.out] at i0 i1 i2
            simp only at i0 i1 i2
            have hb47 := hb7.size
            have hbb7 : b < w7.heap.size := by have := hb4.size; omega
            have hbw7 : Below w.heap.size w w7 := bl_then hb7 hbw4
            refine wp_region_tree [1, 2, 3, 5, 6, 7, 8, 11, 12, 13] (.alt (.br 0 (.alt (.br 4 (.alt (.br 9 (.alt (.br 10 (.fin) (.stop))) (.stop))) (.br 9 (.alt (.br 4 (.alt (.br 10 (.fin) (.stop))) (.stop))) (.stop)))) (.br 9 (.alt (.br 0 (.alt (.br 4 (.alt (.br 10 (.fin) (.stop))) (.stop))) (.stop))) (.stop)))) [14, 15] (by kernel_rfl) (by kernel_rfl) (fun d _ _ _ _ h => by cases d <;> exact h) ?_
            simp only [List.map_cons, List.map_nil, List.getD_cons_zero, List.getD_cons_succ]
            repeat (go_big_quiet_step (fail))
            refine wpQuiet_nil ?_
            refine wpTree_alt (wpTree_br rfl rfl ?_ (wpTree_br rfl rfl ?_ wpTree_stop))
            have own1 := (Own.empty bc 3 w7.drew 50).base_mono (show w7.heap.size ≤ (w7.drew).heap.size by simp <;> omega)
            intro K hK
            go_simp
            refine hK _ _ (by (repeat (first | exact bl_refl | assumption | (apply bl_then; assumption) | refine bl_alloc ?_ _ | refine bl_drew ?_ | refine bl_drewN ?_ _))) ?_
            clear hK K
            refine wpTree_alt (wpTree_br rfl rfl ?_ (wpTree_br rfl rfl ?_ wpTree_stop))
            intro K hK
            simp only [Array.getD_eq_getD_getElem?, List.getElem?_toArray, List.getElem?_cons_succ, List.getElem?_cons_zero, Option.getD_some]
            refine opB_app own1 (hT4.below (by (repeat (first | exact bl_refl | assumption | (apply bl_then; assumption) | refine bl_alloc ?_ _ | refine bl_drew ?_ | refine bl_drewN ?_ _)))) _ _ rfl rfl rfl (by simp; omega) (Below.size (by (repeat (first | exact bl_refl | assumption | (apply bl_then; assumption) | refine bl_alloc ?_ _ | refine bl_drew ?_ | refine bl_drewN ?_ _)))) ?_
            intro v6 w6 own6 hg6
            have hb6 := own_step own1 hg6 (by (repeat (first | exact bl_refl | assumption | (apply bl_then; assumption) | refine bl_alloc ?_ _ | refine bl_drew ?_ | refine bl_drewN ?_ _)))
            refine hK _ _ hb6 ?_
            clear hK K
            have one1 := Blk.new w6 50 #[.int .i64 x, .int .i64 y, .int .i64 s]
            refine wpTree_alt (wpTree_br rfl rfl ?_ wpTree_stop)
            intro K hK
            go_simp
            refine hK _ _ (by (repeat (first | exact bl_refl | assumption | (apply bl_then; assumption) | refine bl_alloc ?_ _ | refine bl_drew ?_ | refine bl_drewN ?_ _))) ?_
            clear hK K
            refine wpTree_alt (wpTree_br rfl rfl ?_ wpTree_stop)
            intro K hK
            simp only [Array.getD_eq_getD_getElem?, List.getElem?_toArray, List.getElem?_cons_succ, List.getElem?_cons_zero, Option.getD_some]
            refine opB_app (own6.alloc (.cells #[.int .i64 x, .int .i64 y, .int .i64 s] 50)) one1.one_bar _ _ rfl rfl rfl (by simp; omega) (Below.size (by (repeat (first | exact bl_refl | assumption | (apply bl_then; assumption) | refine bl_alloc ?_ _ | refine bl_drew ?_ | refine bl_drewN ?_ _)))) ?_
            intro v9 w9 own9 hg9
            have hb9 := own_step (own6.alloc (.cells #[.int .i64 x, .int .i64 y, .int .i64 s] 50)) hg9 (by (repeat (first | exact bl_refl | assumption | (apply bl_then; assumption) | refine bl_alloc ?_ _ | refine bl_drew ?_ | refine bl_drewN ?_ _)))
            refine hK _ _ hb9 ?_
            clear hK K
            refine wpTree_fin ?_
            rotate_left
            have one1 := Blk.new (w7.drew.alloc (.cells #[] 50)) 50 #[.int .i64 x, .int .i64 y, .int .i64 s]
            simp only [World.size_alloc] at one1
            intro K hK
            go_simp
            refine hK _ _ (by (repeat (first | exact bl_refl | assumption | (apply bl_then; assumption) | refine bl_alloc ?_ _ | refine bl_drew ?_ | refine bl_drewN ?_ _))) ?_
            clear hK K
            refine wpTree_alt (wpTree_br rfl rfl ?_ wpTree_stop)
            intro K hK
            simp only [Array.getD_eq_getD_getElem?, List.getElem?_toArray, List.getElem?_cons_succ, List.getElem?_cons_zero, Option.getD_some]
            refine opB_app (own1.alloc (.cells #[.int .i64 x, .int .i64 y, .int .i64 s] 50)) (hT4.below (by (repeat (first | exact bl_refl | assumption | (apply bl_then; assumption) | refine bl_alloc ?_ _ | refine bl_drew ?_ | refine bl_drewN ?_ _)))) _ _ rfl rfl rfl (by simp; omega) (Below.size (by (repeat (first | exact bl_refl | assumption | (apply bl_then; assumption) | refine bl_alloc ?_ _ | refine bl_drew ?_ | refine bl_drewN ?_ _)))) ?_
            intro v6 w6 own6 hg6
            have hb6 := own_step (own1.alloc (.cells #[.int .i64 x, .int .i64 y, .int .i64 s] 50)) hg6 (by (repeat (first | exact bl_refl | assumption | (apply bl_then; assumption) | refine bl_alloc ?_ _ | refine bl_drew ?_ | refine bl_drewN ?_ _)))
            refine hK _ _ hb6 ?_
            clear hK K
            refine wpTree_alt (wpTree_br rfl rfl ?_ wpTree_stop)
            intro K hK
            simp only [Array.getD_eq_getD_getElem?, List.getElem?_toArray, List.getElem?_cons_succ, List.getElem?_cons_zero, Option.getD_some]
            refine opB_app own6 (one1.grown hg6 (by simp [Value.ownBlock])).one_bar _ _ rfl rfl rfl (by simp; omega) (Below.size (by (repeat (first | exact bl_refl | assumption | (apply bl_then; assumption) | refine bl_alloc ?_ _ | refine bl_drew ?_ | refine bl_drewN ?_ _)))) ?_
            intro v9 w9 own9 hg9
            have hb9 := own_step own6 hg9 (by (repeat (first | exact bl_refl | assumption | (apply bl_then; assumption) | refine bl_alloc ?_ _ | refine bl_drew ?_ | refine bl_drewN ?_ _)))
            refine hK _ _ hb9 ?_
            clear hK K
            refine wpTree_fin ?_
            rotate_left
            have one1 := Blk.new w7.drew 50 #[.int .i64 x, .int .i64 y, .int .i64 s]
            intro K hK
            go_simp
            refine hK _ _ (by (repeat (first | exact bl_refl | assumption | (apply bl_then; assumption) | refine bl_alloc ?_ _ | refine bl_drew ?_ | refine bl_drewN ?_ _))) ?_
            clear hK K
            refine wpTree_alt (wpTree_br rfl rfl ?_ wpTree_stop)
            have own1 := (Own.empty bc 3 (w7.drew.alloc (.cells #[.int .i64 x, .int .i64 y, .int .i64 s] 50)) 50).base_mono (show w7.heap.size ≤ ((w7.drew.alloc (.cells #[.int .i64 x, .int .i64 y, .int .i64 s] 50))).heap.size by simp <;> omega)
            simp only [World.size_alloc] at own1
            intro K hK
            go_simp
            refine hK _ _ (by (repeat (first | exact bl_refl | assumption | (apply bl_then; assumption) | refine bl_alloc ?_ _ | refine bl_drew ?_ | refine bl_drewN ?_ _))) ?_
            clear hK K
            refine wpTree_alt (wpTree_br rfl rfl ?_ wpTree_stop)
            intro K hK
            simp only [Array.getD_eq_getD_getElem?, List.getElem?_toArray, List.getElem?_cons_succ, List.getElem?_cons_zero, Option.getD_some]
            refine opB_app own1 (hT4.below (by (repeat (first | exact bl_refl | assumption | (apply bl_then; assumption) | refine bl_alloc ?_ _ | refine bl_drew ?_ | refine bl_drewN ?_ _)))) _ _ rfl rfl rfl (by simp; omega) (Below.size (by (repeat (first | exact bl_refl | assumption | (apply bl_then; assumption) | refine bl_alloc ?_ _ | refine bl_drew ?_ | refine bl_drewN ?_ _)))) ?_
            intro v6 w6 own6 hg6
            have hb6 := own_step own1 hg6 (by (repeat (first | exact bl_refl | assumption | (apply bl_then; assumption) | refine bl_alloc ?_ _ | refine bl_drew ?_ | refine bl_drewN ?_ _)))
            refine hK _ _ hb6 ?_
            clear hK K
            refine wpTree_alt (wpTree_br rfl rfl ?_ wpTree_stop)
            intro K hK
            simp only [Array.getD_eq_getD_getElem?, List.getElem?_toArray, List.getElem?_cons_succ, List.getElem?_cons_zero, Option.getD_some]
            refine opB_app own6 ((one1.alloc (.cells #[] 50)).grown hg6 (by simp [Value.ownBlock])).one_bar _ _ rfl rfl rfl (by simp; omega) (Below.size (by (repeat (first | exact bl_refl | assumption | (apply bl_then; assumption) | refine bl_alloc ?_ _ | refine bl_drew ?_ | refine bl_drewN ?_ _)))) ?_
            intro v9 w9 own9 hg9
            have hb9 := own_step own6 hg9 (by (repeat (first | exact bl_refl | assumption | (apply bl_then; assumption) | refine bl_alloc ?_ _ | refine bl_drew ?_ | refine bl_drewN ?_ _)))
            refine hK _ _ hb9 ?_
            clear hK K
            refine wpTree_fin ?_
            rotate_left
            all_goals
              refine wpList_appBS own9 (hD4.below hb9) rfl _ _ rfl rfl rfl (by simp; omega) hb9.size ?_
              intro v8 w8 own8 hg8
              have hb8 := own_step own9 hg8 hb9
              have hO8 : OwB w.heap.size w8 v8 (insU acc (x, y, s)) := by rw [HE.out]; simpa using own8.base_mono (Below.size hbw7)
              have hbw8 : Below w.heap.size w w8 := bl_then hb8 hbw7
              clear own8 hg8 own9 own6 own1 hb9 hb6 hg9
              go_wp2
              all_goals go_roundw
              all_goals first | exact ⟨k + 1, by omega, by go_num, by rw [HTK.out]; exact hO8, hbw8⟩ | (simp [intOf]; omega)
    · have HE : Hid (setB l = setIn [] (l.take k)) := by unfold Hid setB; rw [List.take_of_length_le (by omega)]
      go_wp2
      go_ret
      exact ⟨_, rfl, by rw [HE.out]; exact hO, hbw⟩
end Go.Proofs.Ytpoaomdpcoaolaa

/- The run and whether a torn net is ready, of the reference, walked. Conditions: bars within bounds. -/
import Derived.Test.YtpompeancmonbaaGreatE23
import Derived.Deep.Cut
namespace Go.Proofs.YtpompeancmonbaaGreat
open Go.RowKit Go.ChangeMaps
set_option maxHeartbeats 4000000
set_option maxRecDepth 100000

def runI (D : List Bar) (l : List Knot) : Nat → Option (List Knot)
  | 0 => none
  | n + 1 => match tryRun D (l.getD n (0, 0)) with
    | some w => some w
    | none => runI D l n
theorem runO_runI {D : List Bar} (h : (oddK D).length = 2) : runO D = runI D (oddK D) 2 := by
  match hh : oddK D, h with
  | [p, q], _ =>
    rw [runO_two hh]
    unfold tryAll twoB
    simp only [runI, List.findSome?_cons, List.findSome?_nil, List.getD_eq_getElem?_getD, List.getElem?_cons_succ, List.getElem?_cons_zero, Option.getD_some]
    cases tryRun D q with
    | some w => rfl
    | none => cases tryRun D p <;> rfl
/-- the call returns a fresh row of knots and whether there is one -/
def RO (w : World) (o : Option (List Knot)) (e : Ending) (w' : World) : Prop := ∃ v, e = .returned (.tuple #[v, .bool o.isSome]) ∧ OwK w.heap.size w' v (o.getD []) ∧ Below w.heap.size w w'
def someE (l a : List Bar) : Int := if netE l = 0 then whenI (unk l a) 10 else netE l
end Go.Proofs.YtpompeancmonbaaGreat

/- Lists of bars together, the torn net that lacks further bars, and the one that a patch leaves, of the reference, walked. Conditions: the slices read as lists. -/
namespace Go.Proofs.YtpompeancmonbaaGreat
open Go.RowKit Go.ChangeMaps
set_option maxHeartbeats 4000000
set_option maxRecDepth 100000

theorem insB_len (b : Bar) : ∀ l : List Bar, (insB l b).length = l.length + 1
  | [] => rfl
  | x :: r => by
    unfold insB
    split
    · simp [insB_len b r]
    · simp
def tog (a b : List Bar) : List Bar := b.foldl (fun o x => if hasb o x then o else insB o x) a
theorem tog_take {a b : List Bar} {k : Nat} (hk : k < b.length) : tog a (b.take (k + 1)) = if hasb (tog a (b.take k)) b[k] then tog a (b.take k) else insB (tog a (b.take k)) b[k] := by
  unfold tog
  rw [List.take_succ_eq_append_getElem hk, List.foldl_append]; rfl
theorem tog_len : ∀ (b a : List Bar), (tog a b).length ≤ a.length + b.length
  | [], a => by simp [tog]
  | x :: b, a => by
    show (tog (if hasb a x then a else insB a x) b).length ≤ _
    have h := tog_len b (if hasb a x then a else insB a x)
    have h2 := insB_len x a
    split at h
    · rename_i hh; rw [if_pos hh]; simp only [List.length_cons]; omega
    · rename_i hh; rw [if_neg hh]; simp only [List.length_cons]; omega
/-- the call returns a torn net: the old net, and a fresh row of bars -/
def RT (w : World) (v : Value) (l : List Bar) (e : Ending) (w' : World) : Prop := ∃ u', e = .returned (.agg #[v, u']) ∧ OwB w.heap.size w' u' l ∧ Below w.heap.size w w'
end Go.Proofs.YtpompeancmonbaaGreat

/- The missing bars between full knots, and the bars of a walk, of the reference, walked. Conditions: bars within bounds. -/
namespace Go.Proofs.YtpompeancmonbaaGreat
open Go.RowKit Go.ChangeMaps
set_option maxHeartbeats 4000000
set_option maxRecDepth 100000

theorem four_int {D : List Bar} {k : Knot} {q : Bool} (h : (cnt (legsAt D k) == 4) = q) : (((missN D k : Nat) : Int) == 4) = q := by
  rw [← h, Bool.eq_iff_iff]
  unfold missN
  simp
  omega
end Go.Proofs.YtpompeancmonbaaGreat

/- A list of knots checked as a walk and as a run, and the bars that it makes, of the reference, walked. Conditions: the slices read as lists. -/
namespace Go.Proofs.YtpompeancmonbaaGreat
open Go.RowKit Go.ChangeMaps
set_option maxHeartbeats 4000000
set_option maxRecDepth 100000

theorem rAdj_adj (a b : Knot) : rAdj a b = adjB a b := by
  obtain ⟨x, y⟩ := a
  obtain ⟨x', y'⟩ := b
  unfold rAdj adjB
  simp only
  rw [Bool.eq_iff_iff]
  split
  · simp only [Bool.and_eq_true, Bool.or_eq_true, decide_eq_true_eq]; omega
  · simp only [Bool.and_eq_true, Bool.or_eq_true, decide_eq_true_eq]; omega
def isRunAny (D : List Bar) (l : List Knot) : Bool := (oddK D).any fun k => decide (rwalkL D k = l) && isRunP D (rwalkL D k)
theorem any_dropK (f : Knot → Bool) {l : List Knot} {k : Nat} (hk : k < l.length) : (l.drop k).any f = (f l[k] || (l.drop (k + 1)).any f) := by
  rw [List.drop_eq_getElem_cons hk]; rfl
/-- the bars that a walk makes, where none is passed twice -/
def mkB : List Bar → List Bar → Option (List Bar)
  | o, [] => some o
  | o, b :: r => if hasb o b then none else mkB (insB o b) r
theorem mkB_drop {l : List Bar} {k : Nat} (hk : k < l.length) (o : List Bar) : mkB o (l.drop k) = if hasb o l[k] then none else mkB (insB o l[k]) (l.drop (k + 1)) := by
  rw [List.drop_eq_getElem_cons hk, mkB]
/-- the call returns a fresh row of bars and whether there is one -/
def ROB (w : World) (o : Option (List Bar)) (e : Ending) (w' : World) : Prop := ∃ v, e = .returned (.tuple #[v, .bool o.isSome]) ∧ OwB w.heap.size w' v (o.getD []) ∧ Below w.heap.size w w'
theorem passP_len : ∀ l : List Knot, (passP l).length ≤ l.length
  | [] => Nat.le_refl _
  | [_] => by simp [passP]
  | a :: b :: r => by
    have := passP_len (b :: r)
    simp only [passP, List.length_cons] at this ⊢
    omega
end Go.Proofs.YtpompeancmonbaaGreat

/- Lists of bars that are kept in order, a walk's bars, and the two ends of a run: plain. Conditions: none. -/
namespace Go.Proofs.YtpompeancmonbaaGreat

theorem insB_mem (b y : Bar) : ∀ l, y ∈ insB l b ↔ y = b ∨ y ∈ l
  | [] => by simp [insB]
  | x :: r => by
    unfold insB
    split
    · rw [List.mem_cons, insB_mem b y r, List.mem_cons]
      constructor
      · rintro (h | h | h) <;> simp [h]
      · rintro (h | h | h) <;> simp [h]
    · simp
theorem insB_sorted {b : Bar} : ∀ {l : List Bar}, l.Pairwise bltP → b ∉ l → (insB l b).Pairwise bltP
  | [], _, _ => by simp [insB]
  | x :: r, h, hb => by
    obtain ⟨h1, h2⟩ := List.pairwise_cons.1 h
    have hbx : x ≠ b := fun e => hb (by simp [e])
    have hbr : b ∉ r := fun e => hb (by simp [e])
    unfold insB
    split
    · rename_i hx
      refine List.pairwise_cons.2 ⟨fun y hy => ?_, insB_sorted h2 hbr⟩
      rcases (insB_mem b y r).1 hy with rfl | hy
      · exact hx
      · exact h1 y hy
    · rename_i hx
      have hlt : bltP b x := bltP_tri (fun h => hx h) hbx
      refine List.pairwise_cons.2 ⟨fun y hy => ?_, h⟩
      rcases List.mem_cons.1 hy with rfl | hy
      · exact hlt
      · exact bltP_trans hlt (h1 y hy)
theorem hasb_mem {l : List Bar} {b : Bar} : hasb l b = true ↔ b ∈ l := by simp [hasb]
theorem hasb_not {l : List Bar} {b : Bar} : hasb l b = false ↔ b ∉ l := by simp [hasb]
theorem tog_mem (x : Bar) : ∀ (b a : List Bar), x ∈ tog a b ↔ x ∈ a ∨ x ∈ b
  | [], a => by simp [tog]
  | y :: b, a => by
    show x ∈ tog (if hasb a y then a else insB a y) b ↔ _
    rw [tog_mem x b]
    by_cases h : hasb a y = true
    · rw [if_pos h]
      have := hasb_mem.1 h
      constructor
      · rintro (h | h) <;> simp [h]
      · rintro (h | h)
        · exact .inl h
        · rcases List.mem_cons.1 h with rfl | h
          · exact .inl this
          · exact .inr h
    · rw [if_neg h, insB_mem, List.mem_cons]
      constructor
      · rintro ((h | h) | h) <;> simp [h]
      · rintro (h | h | h) <;> simp [h]
theorem tog_sorted : ∀ (b a : List Bar), a.Pairwise bltP → (tog a b).Pairwise bltP
  | [], a, h => h
  | y :: b, a, h => by
    show (tog (if hasb a y then a else insB a y) b).Pairwise bltP
    by_cases hh : hasb a y = true
    · rw [if_pos hh]; exact tog_sorted b a h
    · rw [if_neg hh]; exact tog_sorted b _ (insB_sorted h (hasb_not.1 (by simpa using hh)))
theorem sortedB_eq {l r : List Bar} (h1 : l.Pairwise bltP) (h2 : r.Pairwise bltP) (h : ∀ x, x ∈ l ↔ x ∈ r) : l = r := sorted_unique bltP_irrefl (fun _ _ _ => bltP_trans) h1 h2 h
theorem sortedB_nodup {l : List Bar} (h : l.Pairwise bltP) : l.Nodup := h.imp fun hab e => by subst e; exact bltP_irrefl _ hab
theorem srtB_unique {l r : List Bar} (hn : l.Nodup) (hs : r.Pairwise bltP) (h : ∀ x, x ∈ r ↔ x ∈ l) : srtB l = r := sortedB_eq (srtB_sorted hn) hs fun x => by rw [srtB_mem, h]
theorem mkB_some : ∀ (p o r : List Bar), o.Pairwise bltP → mkB o p = some r → r.Pairwise bltP ∧ (∀ x, x ∈ r ↔ x ∈ o ∨ x ∈ p) ∧ p.Nodup ∧ ∀ x ∈ p, x ∉ o
  | [], o, r, h, e => by
    obtain rfl := Option.some.inj e
    exact ⟨h, fun x => by simp, List.nodup_nil, fun x hx => by simp at hx⟩
  | b :: p, o, r, h, e => by
    unfold mkB at e
    split at e
    · cases e
    · rename_i hh
      have hb : b ∉ o := hasb_not.1 (by simpa using hh)
      obtain ⟨h1, h2, h3, h4⟩ := mkB_some p (insB o b) r (insB_sorted h hb) e
      refine ⟨h1, fun x => ?_, List.nodup_cons.2 ⟨fun hm => h4 b hm ((insB_mem b b o).2 (.inl rfl)), h3⟩, fun x hx hm => ?_⟩
      · rw [h2, insB_mem, List.mem_cons]
        constructor
        · rintro ((h | h) | h) <;> simp [h]
        · rintro (h | h | h) <;> simp [h]
      · rcases List.mem_cons.1 hx with rfl | hx
        · exact hb hm
        · exact h4 x hx ((insB_mem b x o).2 (.inr hm))
theorem mkB_none : ∀ (p o : List Bar), mkB o p = none → ¬ (p.Nodup ∧ ∀ x ∈ p, x ∉ o)
  | [], o, e => by cases e
  | b :: p, o, e => by
    rintro ⟨h1, h2⟩
    obtain ⟨h3, h4⟩ := List.nodup_cons.1 h1
    unfold mkB at e
    rw [if_neg (by rw [hasb_not.2 (h2 b (by simp))]; simp)] at e
    refine mkB_none p _ e ⟨h4, fun x hx hm => ?_⟩
    rcases (insB_mem b x o).1 hm with rfl | hm
    · exact h3 hx
    · exact h2 x (by simp [hx]) hm
theorem mkB_eq (p : List Bar) : mkB [] p = if p.Nodup then some (srtB p) else none := by
  cases e : mkB [] p with
  | none =>
    have := mkB_none p [] e
    rw [if_neg (fun h => this ⟨h, fun x _ => by simp⟩)]
  | some r =>
    obtain ⟨h1, h2, h3, _⟩ := mkB_some p [] r List.Pairwise.nil e
    rw [if_pos h3, srtB_unique h3 h1 (fun x => by rw [h2]; simp)]
theorem adjDup_weak : ∀ l : List Bar, l.Pairwise (fun a b => a = b ∨ bltP a b) → (adjDup l = false ↔ l.Nodup)
  | [], _ => by simp [adjDup]
  | [a], _ => by simp [adjDup]
  | a :: b :: r, h => by
    obtain ⟨h1, h2⟩ := List.pairwise_cons.1 h
    have ih := adjDup_weak (b :: r) h2
    unfold adjDup
    rw [Bool.or_eq_false_iff, ih, decide_eq_false_iff_not]
    constructor
    · rintro ⟨hab, hn⟩
      refine List.nodup_cons.2 ⟨fun hm => ?_, hn⟩
      rcases List.mem_cons.1 hm with e | hm
      · exact hab e.symm
      · have hba : bltP a b := (h1 b (by simp)).resolve_left (fun e => hab e.symm)
        rcases (List.pairwise_cons.1 h2).1 a hm with e | hlt
        · exact hab e
        · exact bltP_irrefl _ (bltP_trans hba hlt)
    · intro hn
      obtain ⟨g1, g2⟩ := List.nodup_cons.1 hn
      exact ⟨fun e => g1 (by simp [e]), g2⟩
theorem madeE_eq (l : List Knot) : madeE l = if cwE l = 0 then whenI (!(mkB [] (passP l)).isSome) 9 else cwE l := by
  unfold madeE
  by_cases h : cwE l = 0
  · rw [if_pos h, if_pos h, mkB_eq]
    have hw := adjDup_weak (srtB (passP l)) (srtB_weak _)
    have hn : (srtB (passP l)).Nodup ↔ (passP l).Nodup := (List.mergeSort_perm (passP l) _).nodup_iff
    rw [hn] at hw
    by_cases hd : (passP l).Nodup
    · rw [if_pos hd, hw.2 hd]; rfl
    · rw [if_neg hd]
      have : adjDup (srtB (passP l)) = true := by
        cases hh : adjDup (srtB (passP l))
        · exact absurd (hw.1 hh) hd
        · rfl
      rw [this]; rfl
  · rw [if_neg h, if_neg h]
theorem madeL_eq (l : List Knot) (h : cwE l = 0) : madeL l = (mkB [] (passP l)).getD [] := by
  unfold madeL
  rw [madeE_eq, if_pos h, mkB_eq]
  by_cases hd : (passP l).Nodup
  · rw [if_pos hd]; rfl
  · rw [if_neg hd]; rfl

/-! ## the ends of a run -/
theorem cnt_one_unique {D : List Bar} {k : Knot} (h : cnt (legsAt D k) = 1) {a b : Nat} (ha : a < 4) (hb : b < 4) (hma : armB k a ∈ D) (hmb : armB k b ∈ D) : a = b := by
  have h1 := (lget_mem D k ha).2 hma
  have h2 := (lget_mem D k hb).2 hmb
  generalize legsAt D k = L at h h1 h2
  obtain ⟨p, q, r, s⟩ := L
  obtain rfl | rfl | rfl | rfl : a = 0 ∨ a = 1 ∨ a = 2 ∨ a = 3 := by omega
  all_goals
    obtain rfl | rfl | rfl | rfl : b = 0 ∨ b = 1 ∨ b = 2 ∨ b = 3 := by omega
    all_goals (revert h h1 h2; revert p q r s; decide)
/-- the walk from a knot with one missing bar ends elsewhere -/
theorem walk_end_ne {D : List Bar} {k : Knot} (h1 : cnt (legsAt D k) = 1) {L : Nat} (hL : WEnd D (k, arm0 D k) L) : (dart D (k, arm0 D k) L).1 ≠ k := by
  have ho : ¬ evn D k := by unfold evn oddL; rw [h1]; simp
  obtain ⟨ha, hb⟩ := arm0_ok (odd_ne ho)
  intro e
  have hok := dart_ok (n := L - 1) ha hb (fun t h1 h2 => hL.even t h1 (by have := hL.pos; omega))
  have hp := hL.pos
  obtain ⟨a1, b1⟩ := hok (L - 1) (by omega)
  have hdl : dart D (k, arm0 D k) L = nxt D (dart D (k, arm0 D k) (L - 1)) := by
    have e : L = (L - 1) + 1 := by omega
    conv => lhs; rw [e]
    rfl
  have hk : armK (dart D (k, arm0 D k) (L - 1)).1 (dart D (k, arm0 D k) (L - 1)).2 = k := by rw [hdl] at e; exact e
  have hr := armB_rev (dart D (k, arm0 D k) (L - 1)).1 a1
  rw [hk] at hr
  have hm : armB k (3 - (dart D (k, arm0 D k) (L - 1)).2) ∈ D := by rw [hr]; exact b1
  have hsame := cnt_one_unique h1 (by omega) ha hm hb
  -- the last bar is the first one
  have hbar : barD (dart D (k, arm0 D k) (L - 1)) = barD (k, arm0 D k) := hr.symm.trans (congrArg (armB k) hsame)
  rcases Nat.eq_zero_or_pos (L - 1) with h0 | h0
  · rw [h0] at hk
    exact armK_ne k ha hk
  · have := bars_ne (n := L - 1) ha hb ho (fun t h1 h2 => hL.even t h1 (by omega)) h0 (Nat.le_refl _)
    exact this hbar.symm
theorem tryRun_ends {D : List Bar} (hs : ∀ b ∈ D, Sided b) {k : Knot} {W : List Knot} (h : tryRun D k = some W) : cnt (legsAt D k) = 1 ∧ ∃ z, z ∈ oddK D ∧ z ≠ k ∧ cnt (legsAt D z) = 1 := by
  unfold tryRun at h
  cases hc : (cnt (legsAt D k) == 1 && isRunP D (walkL D k)) with
  | false => rw [hc] at h; cases h
  | true =>
    rw [Bool.and_eq_true, beq_iff_eq] at hc
    obtain ⟨h1, h2⟩ := hc
    have ho : ¬ evn D k := by unfold evn oddL; rw [h1]; simp
    obtain ⟨L, hL, _, _⟩ := walkL_eq ho
    obtain ⟨_, hz, _⟩ := (isRun_walk ho hL).1 h2
    refine ⟨h1, _, ?_, walk_end_ne h1 hL, hz⟩
    refine List.mem_filter.2 ⟨(holeK_mem hs _).2 (odd_ne hL.odd), ?_⟩
    have := hL.odd
    unfold evn at this
    simpa using this
theorem ready_ends {D : List Bar} (hs : ∀ b ∈ D, Sided b) (h : rdyB D = true) : ∀ k ∈ oddK D, cnt (legsAt D k) = 1 := by
  obtain ⟨W, hW⟩ : ∃ W, runO D = some W := by
    unfold rdyB at h
    exact Option.isSome_iff_exists.1 h
  unfold runO at hW
  split at hW
  · rename_i a b e
    have key : ∀ k, k ∈ oddK D → ∀ V, tryRun D k = some V → ∀ x ∈ oddK D, cnt (legsAt D x) = 1 := by
      intro k hk V hV x hx
      obtain ⟨h1, z, hz, hzk, h2⟩ := tryRun_ends hs hV
      rw [e] at hk hz hx
      simp only [List.mem_cons, List.not_mem_nil, or_false] at hk hz hx
      rcases hx with rfl | rfl <;> rcases hk with rfl | rfl <;> rcases hz with rfl | rfl <;> first | exact h1 | exact h2 | exact absurd rfl hzk
    split at hW
    · rename_i w hw
      exact key b (by rw [e]; simp) w hw
    · exact key a (by rw [e]; simp) W hW
  · cases hW
theorem isRunAny_eq {D : List Bar} (hs : ∀ b ∈ D, Sided b) (h : rdyB D = true) (l : List Knot) : isRunAny D l = (oneB D l && startsB D l) := by
  have hall := ready_ends hs h
  unfold isRunAny
  rw [Bool.eq_iff_iff, List.any_eq_true]
  constructor
  · rintro ⟨k, hk, hr⟩
    have h1 := hall k hk
    rw [rwalk_one h1] at hr
    rw [Bool.and_eq_true, decide_eq_true_eq] at hr
    obtain ⟨rfl, h2⟩ := hr
    have e1 : oneB D (walkL D k) = true := by
      show (cnt (legsAt D k) == 1) = true
      rw [h1]; rfl
    have e2 : startsB D (walkL D k) = true := by
      show (isRunP D (walkL D k) && decide (walkL D k = walkL D k)) = true
      rw [h2]; simp
    rw [e1, e2]; rfl
  · intro hr
    rw [Bool.and_eq_true] at hr
    obtain ⟨h1, h2⟩ := hr
    cases l with
    | nil => cases h1
    | cons k r =>
      have hc : cnt (legsAt D k) = 1 := by
        have : (cnt (legsAt D k) == 1) = true := h1
        simpa using this
      have h2' : (isRunP D (walkL D k) && decide (walkL D k = k :: r)) = true := h2
      rw [Bool.and_eq_true, decide_eq_true_eq] at h2'
      have ho : oddL (legsAt D k) = true := by unfold oddL; rw [hc]; rfl
      refine ⟨k, List.mem_filter.2 ⟨(holeK_mem hs k).2 (odd_legs ho), ho⟩, ?_⟩
      rw [rwalk_one hc, h2'.1, h2'.2]
      simp
end Go.Proofs.YtpompeancmonbaaGreat

/- Legs told apart, and copied, of the reference and the statement, walked. Conditions: none. -/
namespace Go.Proofs.YtpompeancmonbaaGreat
open Go.RowKit Go.ChangeMaps
set_option maxHeartbeats 4000000
set_option maxRecDepth 100000

def legB (x y m : Int) (a : ByteArray) (x' y' m' : Int) (b : ByteArray) : Bool := beqK x y x' y' && (decide (m = m') && decide (a.toList = b.toList))
abbrev SlL := Sl lc 4
theorem Rd.leg {w : World} {A : Option Addr} {l : List LegT} (h : Rd lc 4 w A l) {k : Nat} (hk : k < l.length) : ∃ b off, A = some ⟨b, off, none⟩ ∧ b < w.heap.size ∧
    w.cell? ⟨b, off + k * 4, none⟩ = some (.int .i64 l[k].1.1) ∧ w.cell? ⟨b, off + k * 4 + 1, none⟩ = some (.int .i64 l[k].1.2) ∧ w.cell? ⟨b, off + k * 4 + 2, none⟩ = some (.int .i64 l[k].2.1) ∧ w.cell? ⟨b, off + k * 4 + 3, none⟩ = some (kstr l[k].2.2) := by
  obtain ⟨b, off, e, hlt, hc⟩ := h k l[k] (List.getElem?_eq_getElem hk)
  exact ⟨b, off, e, hlt, by simpa using hc 0 _ rfl, hc 1 _ rfl, hc 2 _ rfl, hc 3 _ rfl⟩
theorem Rd.legAt {w : World} {b off : Nat} {l : List LegT} (h : Rd lc 4 w (some ⟨b, off, none⟩) l) {k : Nat} (hk : k < l.length) : b < w.heap.size ∧
    w.cell? ⟨b, off + k * 4, none⟩ = some (.int .i64 l[k].1.1) ∧ w.cell? ⟨b, off + k * 4 + 1, none⟩ = some (.int .i64 l[k].1.2) ∧ w.cell? ⟨b, off + k * 4 + 2, none⟩ = some (.int .i64 l[k].2.1) ∧ w.cell? ⟨b, off + k * 4 + 3, none⟩ = some (kstr l[k].2.2) := by
  obtain ⟨b', off', e, hlt, h1⟩ := h.leg hk
  obtain ⟨rfl, rfl⟩ : b = b' ∧ off = off' := by simpa using e
  exact ⟨hlt, h1⟩
def legE (a b : LegT) : Bool := legB a.1.1 a.1.2 a.2.1 (kby a.2.2) b.1.1 b.1.2 b.2.1 (kby b.2.2)
def sameL : List LegT → List LegT → Bool
  | [], [] => true
  | a :: r, b :: s => legE a b && sameL r s
  | _, _ => false
theorem sameL_len : ∀ {l r : List LegT}, l.length ≠ r.length → sameL l r = false
  | [], [], h => absurd rfl h
  | [], _ :: _, _ => rfl
  | _ :: _, [], _ => rfl
  | a :: l, b :: r, h => by
    unfold sameL
    rw [sameL_len (fun e => h (by simp [e]))]
    simp
theorem sameL_drop {l r : List LegT} {k : Nat} (hk : k < l.length) (hk' : k < r.length) : sameL (l.drop k) (r.drop k) = (legE l[k] r[k] && sameL (l.drop (k + 1)) (r.drop (k + 1))) := by
  rw [List.drop_eq_getElem_cons hk, List.drop_eq_getElem_cons hk', sameL]
end Go.Proofs.YtpompeancmonbaaGreat

/- The nets of the statement's examples, walked. Conditions: none. -/
namespace Go.Proofs.YtpompeancmonbaaGreat
open Go.RowKit Go.ChangeMaps
set_option maxHeartbeats 4000000
set_option maxRecDepth 100000

theorem own_new (W : World) {base : Nat} (hb : base ≤ W.heap.size) (l : List Bar) (hl : l.length ≤ 1000) (cs : Array Value) (hc : cs = (l.flatMap bc).toArray) (n : Nat) (hn : n = l.length) : OwB base (W.alloc (.cells cs 46)) (.slice (some ⟨W.heap.size, 0, none⟩) n n) l := by
  subst hc hn
  have hs : ∀ l : List Bar, (l.flatMap bc).length = l.length * 3 := fun l => by
    induction l with
    | nil => rfl
    | cons a r ih => simp [bc, ih]; omega
  exact ⟨hs l, .inr ⟨W.heap.size, l.length, _, rfl, hb, heap_alloc_new W _, Nat.le_refl _, by simp [maxLen]; omega, by simpa using hs l, by rw [← hs l]; exact List.take_length⟩⟩
def meshL : List Bar := [(3, 1, -1), (3, 1, 1), (2, 2, 1), (4, 2, -1)]
def furtherL : List Bar := [(1, 1, 1), (2, 2, -1)]
def sqS (y x s : Int) : List Bar := if 0 ≤ x + s ∧ x + s ≤ 6 then [(x, y, s)] else []
def sd : Nat → Int
  | 0 => -1
  | _ => 1
def sqTo (y x : Int) : Nat → List Bar
  | 0 => []
  | i + 1 => sqTo y x i ++ sqS y x (sd i)
def sqJ (y : Int) : Nat → List Bar
  | 0 => []
  | j + 1 => sqJ y j ++ sqTo y (y % 2 + 2 * j) 2
def sqN (y : Int) : Nat := if y % 2 = 0 then 4 else 3
def sqY : Nat → List Bar
  | 0 => []
  | k + 1 => sqY k ++ sqJ k (sqN k)
def squareL : List Bar := sqY 6
theorem sqS_len (y x s : Int) : (sqS y x s).length ≤ 1 := by unfold sqS; split <;> simp
theorem sqTo_len (y x : Int) : ∀ i, (sqTo y x i).length ≤ i
  | 0 => Nat.le_refl _
  | i + 1 => by
    have h := sqTo_len y x i
    have h2 := sqS_len y x (sd i)
    simp only [sqTo, List.length_append]
    omega
theorem sqJ_len (y : Int) : ∀ j, (sqJ y j).length ≤ 2 * j
  | 0 => Nat.le_refl _
  | j + 1 => by
    have h := sqJ_len y j
    have h2 := sqTo_len y (y % 2 + 2 * j) 2
    simp only [sqJ, List.length_append]
    omega
theorem sqY_len : ∀ k, (sqY k).length ≤ 8 * k
  | 0 => Nat.le_refl _
  | k + 1 => by
    have h := sqY_len k
    have h2 := sqJ_len k (sqN k)
    have h3 : sqN k ≤ 4 := by unfold sqN; split <;> omega
    simp only [sqY, List.length_append]
    omega
end Go.Proofs.YtpompeancmonbaaGreat

/- What the program and the reference answer at the examples: computed. Conditions: none. -/
namespace Go.Proofs.YtpompeancmonbaaGreat
open Go.RowKit
set_option maxRecDepth 100000

def oneL : List Bar := [(3, 3, 1)]
def cutL : List Bar := tog meshL furtherL
def patL : List Bar := [(2, 2, 1), (4, 2, -1)]
def wL : List Knot := [(1, 3), (2, 2), (3, 3), (4, 2), (3, 1), (2, 2), (1, 1)]
theorem aw_1 : runE squareL oneL = 0 ∧ runL squareL oneL = [(4, 4), (3, 3)] := by decide
theorem aw_2 : twineE [(4, 4), (3, 3)] 200 30 = 0 ∧ twineR [(4, 4), (3, 3)] 200 30 = 260 := by decide
theorem aw_3 : noneE squareL oneL = 0 ∧ boundR squareL oneL = 0 := by decide
theorem aw_4 : tornE squareL meshL = 0 ∧ kindsL squareL meshL = [((3, 1), 2, 4), ((2, 2), 2, 3), ((4, 2), 2, 3), ((3, 3), 2, 4)] := by decide
theorem aw_5 : readyR squareL meshL = false := by decide
theorem aw_6 : leastE squareL meshL 2 = 0 ∧ leastL squareL meshL 2 = furtherL := by decide
theorem aw_7 : leastE squareL meshL 1 = 23 := by decide
theorem aw_8 : runE squareL cutL = 0 ∧ runL squareL cutL = wL := by decide
theorem aw_9 : provedE squareL cutL wL = 0 := by decide
theorem aw_10 : innerL squareL cutL = [] ∧ tornE squareL cutL = 0 := by decide
theorem aw_11 : patchE squareL cutL patL = 0 ∧ (wout cutL patL).length = 4 := by decide
theorem aw_12 : walkE squareL (wout cutL patL) (1, 3) = 0 ∧ walkR squareL (wout cutL patL) (1, 3) = [(1, 3), (2, 2)] := by decide
instance (a b : Bar) : Decidable (bltP a b) := inferInstanceAs (Decidable (barLt a.1 a.2.1 a.2.2 b.1 b.2.1 b.2.2 = true))
theorem srtB_eq {l r : List Bar} (hn : l.Nodup) (hs : r.Pairwise bltP) (h1 : ∀ x ∈ l, x ∈ r) (h2 : ∀ x ∈ r, x ∈ l) : srtB l = r :=
  sorted_unique bltP_irrefl (fun _ _ _ => bltP_trans) (srtB_sorted hn) hs fun x => by rw [srtB_mem]; exact ⟨h1 x, h2 x⟩
theorem aw_13 : restL squareL cutL wL = squareL := by
  unfold restL
  rw [if_pos aw_9]
  exact srtB_eq (by decide) (by decide) (by decide) (by decide)
section
variable {v u z : Value} (w : World)
theorem awc_run1 (hN : SlB w v squareL) (hD : SlB w u oneL) : Calls Tryz.prog 12 #[.agg #[v, u]] w (RKE w [(4, 4), (3, 3)] 0) := by
  have := prun_any _ _ w hN hD
  rwa [aw_1.1, aw_1.2] at this
theorem awc_kinds (hN : SlB w v squareL) (hD : SlB w u meshL) : Calls Tryz.prog 15 #[.agg #[v, u]] w (RLE w [((3, 1), 2, 4), ((2, 2), 2, 3), ((4, 2), 2, 3), ((3, 3), 2, 4)] 0) := by
  have := pkinds_any _ _ w hN hD
  rwa [aw_4.1, aw_4.2] at this
theorem awc_ready (hN : SlB w v squareL) (hD : SlB w u meshL) : Calls Tryz.prog 14 #[.agg #[v, u]] w (RV w (.tuple #[.bool false, .int .i64 0])) := by
  have := pready_any _ _ w hN hD
  rwa [aw_5, aw_4.1] at this
theorem awc_trim2 (hN : SlB w v squareL) (hD : SlB w u meshL) : Calls Tryz.prog 13 #[.agg #[v, u], .int .i64 2] w (RBE w furtherL 0) := by
  have := trim_any _ _ 2 w hN hD
  rwa [aw_6.1, aw_6.2] at this
theorem awc_trim1 (hN : SlB w v squareL) (hD : SlB w u meshL) : Calls Tryz.prog 13 #[.agg #[v, u], .int .i64 1] w (RBE w [] 23) := by
  have := trim_any _ _ 1 w hN hD
  have e : leastL squareL meshL 1 = [] := by unfold leastL; rw [aw_7]; rfl
  rwa [aw_7, e] at this
theorem awc_run2 (hN : SlB w v squareL) (hD : SlB w u cutL) : Calls Tryz.prog 12 #[.agg #[v, u]] w (RKE w wL 0) := by
  have := prun_any _ _ w hN hD
  rwa [aw_8.1, aw_8.2] at this
theorem awc_restore (hN : SlB w v squareL) (hD : SlB w u cutL) (h : SlK w z wL) : Calls Tryz.prog 31 #[.agg #[v, u], z] w (RBE w squareL 0) := by
  have := restore_any _ _ _ w hN hD h
  rwa [aw_13, aw_9] at this
end
end Go.Proofs.YtpompeancmonbaaGreat

/- The program answers the document's examples: the statement's 'awake', walked. Conditions: none. -/
namespace Go.Proofs.YtpompeancmonbaaGreat
open Go.RowKit Go.ChangeMaps
set_option maxHeartbeats 8000000
set_option maxRecDepth 100000

theorem bl_new {W w' : World} {o : Obj} (h : Chg [W.heap.size] (W.alloc o) w') : Below W.heap.size W w' := ((Chg.of_below (S := [W.heap.size]) (bl_alloc bl_refl o)).trans h).below (by simp) (Nat.le_refl _)
theorem own_newK (W : World) {base : Nat} (hb : base ≤ W.heap.size) (l : List Knot) (hl : l.length ≤ 1000) (cs : Array Value) (hc : cs = (l.flatMap kc).toArray) (n : Nat) (hn : n = l.length) : OwK base (W.alloc (.cells cs 32)) (.slice (some ⟨W.heap.size, 0, none⟩) n n) l := by
  subst hc hn
  have hs : ∀ l : List Knot, (l.flatMap kc).length = l.length * 2 := fun l => by
    induction l with
    | nil => rfl
    | cons a r ih => simp [kc, ih]; omega
  exact ⟨hs l, .inr ⟨W.heap.size, l.length, _, rfl, hb, heap_alloc_new W _, Nat.le_refl _, by simp [maxLen]; omega, by simpa using hs l, by rw [← hs l]; exact List.take_length⟩⟩
theorem sameL_self : ∀ l : List LegT, sameL l l = true
  | [] => rfl
  | a :: l => by
    unfold sameL
    rw [sameL_self l]
    simp [legE, legB, beqK]
end Go.Proofs.YtpompeancmonbaaGreat

/- The statement MendRuns, walked. Conditions: slices that read as lists. -/
namespace Go.Proofs.YtpompeancmonbaaGreat
open Go.RowKit Go.ChangeMaps
set_option maxHeartbeats 8000000
set_option maxRecDepth 100000

theorem miss_int {D : List Bar} {k : Knot} {q : Bool} (h : (missN D k == 1) = q) : (((missN D k : Nat) : Int) != 1) = !q := by
  rw [← h, Bool.eq_iff_iff]
  simp
  omega
end Go.Proofs.YtpompeancmonbaaGreat

/- The statement MendPatches, walked. Conditions: slices that read as lists. -/
namespace Go.Proofs.YtpompeancmonbaaGreat
open Go.RowKit Go.ChangeMaps
set_option maxHeartbeats 8000000
set_option maxRecDepth 100000

theorem firstI_two (a b : Int) : firstI [a, b] = if a = 0 then b else a := by
  unfold firstI
  split
  · unfold firstI
    split
    · rename_i h; rw [h]; rfl
    · rfl
  · rfl
theorem Sl.chg1 {α : Type} {enc : α → List Value} {sz g : Nat} {w w' : World} {v : Value} {l : List α} (h : Sl enc sz w v l) (hc : Chg [g] w w') (hn : v.ownBlock ≠ some g) : Sl enc sz w' v l := by
  obtain ⟨A, c, rfl, h1, h2, hr⟩ := h
  refine ⟨A, c, rfl, h1, h2, fun i x hx => ?_⟩
  obtain ⟨b, off, rfl, hb, hcl⟩ := hr i x hx
  have hbg : b ∉ [g] := by
    intro hm
    obtain rfl : b = g := by simpa using hm
    exact hn rfl
  have hh := hc.block b hb hbg
  refine ⟨b, off, rfl, Nat.lt_of_lt_of_le hb hc.size, fun j u hu => ?_⟩
  rw [← hcl j u hu]
  simp [World.cell?, hh]
theorem patchE_some (N D P : List Bar) : firstI [tornE N D, someE P D] = patchE N D P := by
  unfold patchE netsE
  rw [firstI_two, firstI_two]
  unfold someE
  by_cases h1 : tornE N D = 0
  · rw [if_pos h1, if_pos h1]
  · rw [if_neg h1, if_neg h1, if_neg h1]
end Go.Proofs.YtpompeancmonbaaGreat

/- What the statement MendChecks reckons of the reference's answers: plain. Conditions: none. -/
namespace Go.Proofs.YtpompeancmonbaaGreat

theorem twine_first (l : List Knot) (a b : Int) : twineE l a b = firstI [cwE l, whenI ((decide (a < 0) || decide (100000 < a)) || (decide (b < 0) || decide (100000 < b))) 3] := by
  unfold twineE withinI
  rw [firstI_two]
  show (if cwE l = 0 then firstI [_, _] else cwE l) = _
  by_cases h : cwE l = 0
  · rw [if_pos h, if_pos h, firstI_two]
    cases decide (a < 0) || decide (100000 < a)
    · rfl
    · rfl
  · rw [if_neg h, if_neg h]
theorem proved_first {N D : List Bar} {l : List Knot} (hs : ∀ b ∈ D, Sided b) (h : firstI [tornE N D, cwE l] = 0) : provedE N D l = firstI [whenI (!rdyB D) 18, whenI (!isRunAny D l) 21] := by
  unfold provedE
  rw [if_pos h, firstI_two]
  cases hr : rdyB D with
  | false => rfl
  | true =>
    rw [isRunAny_eq hs hr l]
    cases oneB D l
    · rfl
    · cases startsB D l <;> rfl
/-- a run passes each missing bar once -/
theorem run_pass {D : List Bar} {l : List Knot} (h1 : oneB D l = true) (h2 : startsB D l = true) : (passP l).Nodup ∧ (∀ x ∈ passP l, x ∈ D) ∧ (passP l).length = D.length := by
  cases l with
  | nil => cases h1
  | cons k r =>
    have hc : cnt (legsAt D k) = 1 := by
      have : (cnt (legsAt D k) == 1) = true := h1
      simpa using this
    have h2' : (isRunP D (walkL D k) && decide (walkL D k = k :: r)) = true := h2
    rw [Bool.and_eq_true, decide_eq_true_eq] at h2'
    have ho : ¬ evn D k := by unfold evn oddL; rw [hc]; simp
    obtain ⟨ha, hb⟩ := arm0_ok (odd_ne ho)
    obtain ⟨L, hL, hle, hw⟩ := walkL_eq ho
    obtain ⟨_, _, hfull⟩ := (isRun_walk ho hL).1 h2'.1
    have hp : passP (k :: r) = pathB D (k, arm0 D k) L := by
      rw [← h2'.2, hw]
      exact pass_path _ _ fun t ht => (dart_ok (n := L - 1) ha hb (fun t h1 h2 => hL.even t h1 (by omega)) t (by omega)).1
    rw [hp]
    exact ⟨pathB_nodup ha hb ho hL.even, pathB_sub ha hb hL.even, by rw [pathB_len, hfull]⟩
theorem proved_run {N D : List Bar} {l : List Knot} (h : provedE N D l = 0) : oneB D l = true ∧ startsB D l = true ∧ rdyB D = true := by
  unfold provedE at h
  split at h
  · split at h
    · rename_i hr
      split at h
      · rename_i h1
        refine ⟨h1, ?_, hr⟩
        cases h2 : startsB D l
        · rw [h2] at h; cases h
        · rfl
      · cases h
    · cases h
  · rename_i h1; exact absurd h h1
theorem wout_sorted {N D : List Bar} (h : N.Pairwise bltP) : (wout N D).Pairwise bltP := h.filter _
theorem rest_tog {N D : List Bar} {l : List Knot} (h : provedE N D l = 0) : restL N D l = tog (wout N D) (madeL l) := by
  obtain ⟨hok, hcw⟩ := proved_zero h
  obtain ⟨h1, h2, _⟩ := proved_run h
  obtain ⟨p1, p2, p3⟩ := run_pass h1 h2
  have hm : madeL l = srtB (passP l) := by rw [madeL_eq l hcw, mkB_eq, if_pos p1]; rfl
  unfold restL
  rw [if_pos h, hm]
  refine srtB_unique ?_ (tog_sorted _ _ (wout_sorted hok.net.sorted)) fun x => by rw [tog_mem, srtB_mem, List.mem_append]
  rw [List.nodup_append]
  refine ⟨sortedB_nodup (wout_sorted hok.net.sorted), p1, fun x hx y hy => ?_⟩
  rintro rfl
  exact (wout_mem.1 hx).2 (p2 _ hy)
end Go.Proofs.YtpompeancmonbaaGreat

/- The least trimming, of the reference, walked. Conditions: bars within bounds, short lists. -/
namespace Go.Proofs.YtpompeancmonbaaGreat
open Go.RowKit Go.ChangeMaps
set_option maxHeartbeats 4000000
set_option maxRecDepth 100000

def tryR (f : List Bar → List Bar → Option (List Bar)) (D : List Bar) : List Bar → Option (List Bar)
  | [] => none
  | x :: r => match f (tog D [x]) r with
    | some z => some (x :: z)
    | none => tryR f D r
def rls : Nat → List Bar → List Bar → Option (List Bar)
  | 0, D, _ => if rdyB D then some [] else none
  | n + 1, D, l => tryR (rls n) D l
theorem tryR_drop {f : List Bar → List Bar → Option (List Bar)} {D l : List Bar} {k : Nat} (hk : k < l.length) : tryR f D (l.drop k) = match f (tog D [l[k]]) (l.drop (k + 1)) with
    | some z => some (l[k] :: z)
    | none => tryR f D (l.drop (k + 1)) := by
  rw [List.drop_eq_getElem_cons hk, tryR]
theorem rls_len : ∀ (n : Nat) (D l z : List Bar), rls n D l = some z → z.length = n
  | 0, D, l, z, h => by
    unfold rls at h
    split at h
    · obtain rfl := Option.some.inj h; rfl
    · cases h
  | n + 1, D, l, z, h => by
    unfold rls at h
    induction l with
    | nil => cases h
    | cons x r ih =>
      unfold tryR at h
      split at h
      · rename_i y hy
        obtain rfl := Option.some.inj h
        rw [List.length_cons, rls_len n _ _ _ hy]
      · exact ih h
theorem sl_mid {w : World} {b off c : Nat} {l : List Bar} (h : Rd bc 3 w (some ⟨b, off, none⟩) l) {k : Nat} (hk : k < l.length) (hlc : l.length ≤ c) (hc : c ≤ maxLen) : SlB w (.slice (some ⟨b, off + k * 3, none⟩) 1 (c - k)) [l[k]] := by
  refine ⟨_, _, rfl, by simp; omega, by omega, fun i x hx => ?_⟩
  match i, hx with
  | 0, hx =>
    obtain rfl : l[k] = x := by simpa using hx
    obtain ⟨b', off', e', hb, hc2⟩ := h k l[k] (List.getElem?_eq_getElem hk)
    obtain ⟨rfl, rfl⟩ : b = b' ∧ off = off' := by simpa using e'
    refine ⟨b, off + k * 3, rfl, hb, fun j u hu => ?_⟩
    have := hc2 j u hu
    rwa [show off + k * 3 + 0 * 3 + j = off + k * 3 + j by omega]
theorem tog_ok {D : List Bar} {x : Bar} (hD : ∀ b ∈ D, BarOk b) (hx : BarOk x) : (∀ b ∈ tog D [x], BarOk b) ∧ (tog D [x]).length ≤ D.length + 1 := by
  refine ⟨fun b hb => ?_, by simpa using tog_len [x] D⟩
  unfold tog at hb
  simp only [List.foldl_cons, List.foldl_nil] at hb
  split at hb
  · exact hD b hb
  · have : ∀ l : List Bar, b ∈ insB l x → b = x ∨ b ∈ l := by
      intro l
      induction l with
      | nil => intro h; simpa [insB] using h
      | cons y r ih =>
        intro h
        unfold insB at h
        split at h
        · rcases List.mem_cons.1 h with rfl | h
          · simp
          · rcases ih h with h | h <;> simp [h]
        · simpa using h
    rcases this D hb with rfl | h
    · exact hx
    · exact hD b h
end Go.Proofs.YtpompeancmonbaaGreat

/- The least trimming with some bars at most, of the reference, walked. Conditions: bars within bounds, short lists. -/
namespace Go.Proofs.YtpompeancmonbaaGreat
open Go.RowKit Go.ChangeMaps
set_option maxHeartbeats 4000000
set_option maxRecDepth 100000

def rtrF (D S : List Bar) : Nat → Nat → Option (List Bar)
  | 0, _ => none
  | f + 1, n => match rls n D S with
    | some z => some z
    | none => rtrF D S f (n + 1)
end Go.Proofs.YtpompeancmonbaaGreat

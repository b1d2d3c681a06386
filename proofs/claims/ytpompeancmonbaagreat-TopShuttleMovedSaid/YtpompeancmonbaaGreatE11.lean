/- The knots of a hole in their order, whether a walk is a run, and the run of a hole: plain, to be computed. Conditions: sides are 1 or -1. -/
import Derived.Test.YtpompeancmonbaaGreatE10
import Derived.Test.YtpompeancmonbaaGreatE09
namespace Go.Proofs.YtpompeancmonbaaGreat

theorem sorted_unique {α : Type} {R : α → α → Prop} (irr : ∀ a, ¬ R a a) (tr : ∀ a b c, R a b → R b c → R a c) : ∀ {l r : List α}, l.Pairwise R → r.Pairwise R → (∀ x, x ∈ l ↔ x ∈ r) → l = r
  | [], [], _, _, _ => rfl
  | [], y :: r, _, _, h => by have := (h y).2 (by simp); simp at this
  | x :: l, [], _, _, h => by have := (h x).1 (by simp); simp at this
  | x :: l, y :: r, h1, h2, h => by
    obtain ⟨p1, p2⟩ := List.pairwise_cons.1 h1
    obtain ⟨q1, q2⟩ := List.pairwise_cons.1 h2
    have hxy : x = y := by
      rcases List.mem_cons.1 ((h x).1 (by simp)) with e | e
      · exact e
      · rcases List.mem_cons.1 ((h y).2 (by simp)) with e' | e'
        · exact e'.symm
        · exact absurd (tr _ _ _ (q1 _ e) (p1 _ e')) (irr _)
    subst hxy
    have ht : ∀ z, z ∈ l ↔ z ∈ r := fun z => by
      constructor
      · intro hz
        rcases List.mem_cons.1 ((h z).1 (by simp [hz])) with e | e
        · subst e; exact absurd (p1 _ hz) (irr _)
        · exact e
      · intro hz
        rcases List.mem_cons.1 ((h z).2 (by simp [hz])) with e | e
        · subst e; exact absurd (q1 _ hz) (irr _)
        · exact e
    rw [sorted_unique irr tr p2 q2 ht]

/-! ## the knots of a hole -/
def kltP (a b : Knot) : Prop := a.2 < b.2 ∨ a.2 = b.2 ∧ a.1 < b.1
instance (a b : Knot) : Decidable (kltP a b) := inferInstanceAs (Decidable (a.2 < b.2 ∨ a.2 = b.2 ∧ a.1 < b.1))
theorem kltP_irr (a : Knot) : ¬ kltP a a := by unfold kltP; omega
theorem kltP_tr (a b c : Knot) : kltP a b → kltP b c → kltP a c := by unfold kltP; omega
theorem kltP_tri {a b : Knot} (h : ¬ kltP a b) (hne : a ≠ b) : kltP b a := by
  unfold kltP at h ⊢
  have : ¬ (a.1 = b.1 ∧ a.2 = b.2) := fun ⟨h1, h2⟩ => hne (Prod.ext h1 h2)
  omega
/-- a knot put into a list in its place -/
def insK : List Knot → Knot → List Knot
  | [], k => [k]
  | x :: r, k => if kltP x k then x :: insK r k else if x = k then x :: r else k :: x :: r
theorem insK_mem (k y : Knot) : ∀ l, y ∈ insK l k ↔ y = k ∨ y ∈ l
  | [] => by simp [insK]
  | x :: r => by
    unfold insK
    split
    · rw [List.mem_cons, insK_mem k y r, List.mem_cons]
      constructor
      · rintro (h | h | h) <;> simp [h]
      · rintro (h | h | h) <;> simp [h]
    · split
      · rename_i h
        subst h
        simp
      · simp
theorem insK_sorted (k : Knot) : ∀ {l : List Knot}, l.Pairwise kltP → (insK l k).Pairwise kltP
  | [], _ => by simp [insK]
  | x :: r, h => by
    obtain ⟨h1, h2⟩ := List.pairwise_cons.1 h
    unfold insK
    split
    · rename_i hx
      refine List.pairwise_cons.2 ⟨fun y hy => ?_, insK_sorted k h2⟩
      rcases (insK_mem k y r).1 hy with rfl | hy
      · exact hx
      · exact h1 y hy
    · rename_i hx
      split
      · exact h
      · rename_i hne
        refine List.pairwise_cons.2 ⟨fun y hy => ?_, h⟩
        have := kltP_tri hx hne
        rcases List.mem_cons.1 hy with rfl | hy
        · exact this
        · exact kltP_tr _ _ _ this (h1 y hy)
def holeIn (o : List Knot) (D : List Bar) : List Knot := D.foldl (fun o b => insK (insK o (lowK b)) (uppK b)) o
def holeK (D : List Bar) : List Knot := holeIn [] D
theorem holeIn_mem (k : Knot) : ∀ (D : List Bar) (o : List Knot), k ∈ holeIn o D ↔ k ∈ o ∨ ∃ b ∈ D, k = lowK b ∨ k = uppK b
  | [], o => by simp [holeIn]
  | b :: D, o => by
    show k ∈ holeIn (insK (insK o (lowK b)) (uppK b)) D ↔ _
    rw [holeIn_mem k D, insK_mem, insK_mem]
    simp only [List.mem_cons, exists_eq_or_imp]
    constructor
    · rintro ((h | h | h) | h)
      · exact .inr (.inl (.inr h))
      · exact .inr (.inl (.inl h))
      · exact .inl h
      · exact .inr (.inr h)
    · rintro (h | (h | h) | h)
      · exact .inl (.inr (.inr h))
      · exact .inl (.inr (.inl h))
      · exact .inl (.inl h)
      · exact .inr h
theorem holeIn_sorted : ∀ (D : List Bar) (o : List Knot), o.Pairwise kltP → (holeIn o D).Pairwise kltP
  | [], _, h => h
  | _ :: D, _, h => holeIn_sorted D _ (insK_sorted _ (insK_sorted _ h))
theorem holeK_sorted (D : List Bar) : (holeK D).Pairwise kltP := holeIn_sorted D [] List.Pairwise.nil
theorem end_arm {b : Bar} (hb : Sided b) {k : Knot} (h : k = lowK b ∨ k = uppK b) : ∃ a, a < 4 ∧ armB k a = b := by
  obtain ⟨x, y, s⟩ := b
  rcases h with rfl | rfl <;> rcases hb with h | h <;> simp only at h <;> subst h
  · exact ⟨1, by omega, rfl⟩
  · exact ⟨0, by omega, rfl⟩
  · exact ⟨2, by omega, by simp [armB, uppK]⟩
  · exact ⟨3, by omega, by simp only [armB, uppK]; ext <;> simp; omega⟩
theorem legs_arm {D : List Bar} {k : Knot} : legsAt D k ≠ noLegs ↔ ∃ a, a < 4 ∧ armB k a ∈ D := by
  constructor
  · intro h
    exact ⟨_, arm0_ok h⟩
  · rintro ⟨a, ha, hm⟩ e
    have := (lget_mem D k ha).2 hm
    rw [e] at this
    obtain rfl | rfl | rfl | rfl : a = 0 ∨ a = 1 ∨ a = 2 ∨ a = 3 := by omega
    all_goals exact absurd this (by decide)
theorem holeK_mem {D : List Bar} (hs : ∀ b ∈ D, Sided b) (k : Knot) : k ∈ holeK D ↔ legsAt D k ≠ noLegs := by
  unfold holeK
  rw [holeIn_mem, legs_arm]
  constructor
  · rintro (h | ⟨b, hb, h⟩)
    · simp at h
    · obtain ⟨a, ha, e⟩ := end_arm (hs b hb) h
      exact ⟨a, ha, e ▸ hb⟩
  · rintro ⟨a, ha, hm⟩
    exact .inr ⟨_, hm, armB_end rfl⟩
theorem legsAt_congr {D D' : List Bar} (h : ∀ b, b ∈ D ↔ b ∈ D') : legsAt D = legsAt D' := by
  funext k
  simp only [legsAt, h]
theorem holeK_congr {D D' : List Bar} (h : ∀ b, b ∈ D ↔ b ∈ D') : holeK D = holeK D' :=
  sorted_unique kltP_irr kltP_tr (holeK_sorted D) (holeK_sorted D') fun k => by
    unfold holeK
    rw [holeIn_mem, holeIn_mem]
    simp [h]
/-- the knots that lack one bar or three -/
def oddK (D : List Bar) : List Knot := (holeK D).filter fun k => oddL (legsAt D k)

/-! ## whether a walk is a run -/
/-- the bar between two knots -/
def btwB (a b : Knot) : Bar := if b.2 < a.2 then (b.1, b.2, a.1 - b.1) else (a.1, a.2, b.1 - a.1)
def passP : List Knot → List Bar
  | a :: b :: r => btwB a b :: passP (b :: r)
  | _ => []
def placeP (b : Bar) : List Bar → Int → Int
  | [], _ => -1
  | x :: r, i => if x = b then i else placeP b r (i + 1)
def isRunP (D : List Bar) (W : List Knot) : Bool :=
  (passP W).length == D.length && cnt (legsAt D (W.getLastD (0, 0))) == 1 && W.all fun k => !(cnt (legsAt D k) == 4 && decide (placeP (armB k 2) (passP W) 0 < placeP (armB k 0) (passP W) 0))
def tryRun (D : List Bar) (k : Knot) : Option (List Knot) := bif cnt (legsAt D k) == 1 && isRunP D (walkL D k) then some (walkL D k) else none
/-- the run, where there is one -/
def runO (D : List Bar) : Option (List Knot) :=
  match oddK D with
  | [a, b] => match tryRun D b with
    | some w => some w
    | none => tryRun D a
  | _ => none
theorem nxt_congr {D D' : List Bar} (h : ∀ b, b ∈ D ↔ b ∈ D') : nxt D = nxt D' := by
  funext d
  simp only [nxt, legsAt_congr h]
theorem wk_congr {D D' : List Bar} (h : ∀ b, b ∈ D ↔ b ∈ D') : ∀ n d, wk D n d = wk D' n d
  | 0, _ => rfl
  | n + 1, d => by simp only [wk, legsAt_congr h, nxt_congr h, wk_congr h n]
theorem walkL_congr {D D' : List Bar} (h : ∀ b, b ∈ D ↔ b ∈ D') (hl : D.length = D'.length) (k : Knot) : walkL D k = walkL D' k := by
  simp only [walkL, arm0, hl, wk_congr h, h]
theorem runO_congr {D D' : List Bar} (h : ∀ b, b ∈ D ↔ b ∈ D') (hl : D.length = D'.length) : runO D = runO D' := by
  have e1 : oddK D = oddK D' := by simp only [oddK, holeK_congr h, legsAt_congr h]
  have e2 : ∀ k, tryRun D k = tryRun D' k := fun k => by simp only [tryRun, isRunP, legsAt_congr h, walkL_congr h hl, hl]
  simp only [runO, e1, e2]

theorem btwB_arm (k : Knot) {a : Nat} (ha : a < 4) : btwB k (armK k a) = armB k a := by
  obtain ⟨x, y⟩ := k
  obtain rfl | rfl | rfl | rfl : a = 0 ∨ a = 1 ∨ a = 2 ∨ a = 3 := by omega
  all_goals
    simp only [btwB, armK, armB]
    split
    · ext <;> simp <;> omega
    · ext <;> simp <;> omega
section
variable {D : List Bar} {d : Dart} {n L : Nat}
theorem pathK_succ (D : List Bar) (d : Dart) (n : Nat) : pathK D d (n + 1) = d.1 :: pathK D (nxt D d) n := by
  unfold pathK
  rw [List.range_succ_eq_map, List.map_cons, List.map_map]
  congr 1
  refine List.map_congr_left fun t _ => ?_
  rw [dart_nxt]; rfl
theorem pathB_succ (D : List Bar) (d : Dart) (n : Nat) : pathB D d (n + 1) = barD d :: pathB D (nxt D d) n := by
  unfold pathB
  rw [List.range_succ_eq_map, List.map_cons, List.map_map]
  congr 1
  refine List.map_congr_left fun t _ => ?_
  rw [dart_nxt]; rfl
theorem pass_path : ∀ (n : Nat) (d : Dart), (∀ t, t < n → (dart D d t).2 < 4) → passP (pathK D d (n + 1)) = pathB D d n
  | 0, d, _ => rfl
  | n + 1, d, h => by
    rw [pathK_succ, pathK_succ, passP, ← pathK_succ, pass_path n (nxt D d) (fun t ht => by rw [dart_nxt]; exact h (t + 1) (by omega)), pathB_succ]
    congr 1
    exact btwB_arm d.1 (h 0 (by omega))
theorem pathK_last (D : List Bar) (d : Dart) (n : Nat) (z : Knot) : (pathK D d (n + 1)).getLastD z = (dart D d n).1 := by
  unfold pathK
  rw [List.range_succ, List.map_append, List.map_cons, List.map_nil, List.getLastD_concat]
theorem placeP_at : ∀ {l : List Bar} (_ : l.Nodup) {i : Nat} (_ : i < l.length) (j : Int) (b : Bar), l[i]? = some b → placeP b l j = j + i
  | [], _, i, hi, _, _, _ => by simp at hi
  | x :: r, hn, 0, _, j, b, e => by
    obtain rfl : x = b := by simpa using e
    simp [placeP]
  | x :: r, hn, i + 1, hi, j, b, e => by
    obtain ⟨h1, h2⟩ := List.nodup_cons.1 hn
    have e' : r[i]? = some b := by simpa using e
    have hm : b ∈ r := List.mem_of_getElem? e'
    unfold placeP
    rw [if_neg (by rintro rfl; exact h1 hm), placeP_at h2 (by simpa using hi) (j + 1) b e']
    omega
/-- what the program asks of its walk's knots with four missing bars: that it came from above first -/
def fineW (D : List Bar) (d : Dart) (L : Nat) : Prop :=
  ∀ s, 0 < s → s < L → cnt (legsAt D (dart D d s).1) = 4 → ∃ r, 0 < r ∧ r ≤ s ∧ (dart D d r).1 = (dart D d s).1 ∧ 3 - (dart D d (r - 1)).2 < 2
theorem onw_four {l : Legs} (h : cnt l = 4) (b : Nat) : onw l b = b ^^^ 1 := by unfold onw; rw [if_pos h]
theorem four_even {l : Legs} (h : cnt l = 4) : oddL l = false := by unfold oddL; rw [h]; rfl
theorem four_get_true {l : Legs} (h : cnt l = 4) {a : Nat} (ha : a < 4) : lget l a = true := by
  obtain ⟨p, q, r, s⟩ := l
  obtain rfl | rfl | rfl | rfl : a = 0 ∨ a = 1 ∨ a = 2 ∨ a = 3 := by omega
  all_goals (revert p q r s; decide)
theorem pathB_get {i : Nat} (hi : i < n) : (pathB D d n)[i]? = some (barD (dart D d i)) := by
  unfold pathB
  rw [List.getElem?_map, List.getElem?_range hi]; rfl
theorem pathB_len (D : List Bar) (d : Dart) (n : Nat) : (pathB D d n).length = n := by simp [pathB]

/-- a bar of a knot with four missing bars, followed at index j: the knot is passed there, next to it -/
theorem pass_four (ha : d.2 < 4) (h0 : barD d ∈ D) (hd : cnt (legsAt D d.1) ≠ 4) (hL : WEnd D d L) {k : Knot} (h4 : cnt (legsAt D k) = 4) {j a : Nat} (hj : j < L) (hc : a < 4) (e : barD (dart D d j) = armB k a) :
    ∃ s, 0 < s ∧ s < L ∧ (dart D d s).1 = k ∧ (s = j ∨ s = j + 1) ∧ ((3 - (dart D d (s - 1)).2 = a ∧ s = j + 1) ∨ (3 - (dart D d (s - 1)).2 = a ^^^ 1 ∧ s = j)) := by
  have hok := dart_ok (n := L - 1) ha h0 (fun t h1 h2 => hL.even t h1 (by omega))
  obtain ⟨aj, bj⟩ := hok j (by omega)
  rcases barD_inj (d := (k, a)) (e := dart D d j) hc aj (by exact e.symm) with h | h
  · -- it leaves k
    have hj0 : 0 < j := by
      rcases Nat.eq_zero_or_pos j with h0' | h0'
      · subst h0'
        have hk : d.1 = k := congrArg Prod.fst h
        rw [hk] at hd
        exact absurd h4 hd
      · exact h0'
    refine ⟨j, hj0, hj, congrArg Prod.fst h, .inl rfl, .inr ⟨?_, rfl⟩⟩
    obtain ⟨a1, b1⟩ := hok (j - 1) (by omega)
    have hjj : dart D d j = nxt D (dart D d (j - 1)) := by
      have : j = (j - 1) + 1 := by omega
      rw [this]; rfl
    have hk : armK (dart D d (j - 1)).1 (dart D d (j - 1)).2 = k := by
      have := congrArg Prod.fst (hjj.symm.trans h)
      exact this
    have ho : onw (legsAt D k) (3 - (dart D d (j - 1)).2) = a := by
      have := congrArg Prod.snd (hjj.symm.trans h)
      simp only [nxt, hk] at this
      exact this
    rw [onw_four h4] at ho
    rw [← ho, Nat.xor_assoc, Nat.xor_self, Nat.xor_zero]
  · -- it comes to k
    have hk : (dart D d (j + 1)).1 = k := by
      show armK (dart D d j).1 (dart D d j).2 = k
      rw [h]
      exact armK_rev k hc
    have hlt : j + 1 < L := by
      rcases Nat.lt_or_ge (j + 1) L with h' | h'
      · exact h'
      · have : j + 1 = L := by omega
        exfalso
        apply hL.odd
        rw [← this, hk]
        exact four_even h4
    refine ⟨j + 1, by omega, hlt, hk, .inr rfl, .inl ⟨?_, rfl⟩⟩
    show 3 - (dart D d j).2 = a
    rw [h]
    simp only [revD]
    omega
theorem fine_place (ha : d.2 < 4) (h0 : barD d ∈ D) (ho : ¬ evn D d.1) (hL : WEnd D d L) (hfull : L = D.length) :
    fineW D d L ↔ ∀ k ∈ pathK D d (L + 1), cnt (legsAt D k) = 4 → ¬ placeP (armB k 2) (pathB D d L) 0 < placeP (armB k 0) (pathB D d L) 0 := by
  have hok := dart_ok (n := L - 1) ha h0 (fun t h1 h2 => hL.even t h1 (by omega))
  have hnd := pathB_nodup ha h0 ho hL.even
  have hsub := pathB_sub ha h0 hL.even
  have hd4 : cnt (legsAt D d.1) ≠ 4 := fun h => ho (four_even h)
  have hall : ∀ b ∈ D, ∃ i, i < L ∧ barD (dart D d i) = b := by
    intro b hb
    by_cases hm : b ∈ pathB D d L
    · obtain ⟨i, hi, e⟩ := List.mem_map.1 hm
      exact ⟨i, List.mem_range.1 hi, e⟩
    · exfalso
      have := length_le_of_sub (l := b :: pathB D d L) (D := D) (List.nodup_cons.2 ⟨hm, hnd⟩) (fun x hx => by
        rcases List.mem_cons.1 hx with rfl | hx
        · exact hb
        · exact hsub x hx)
      simp [pathB_len] at this
      omega
  have hplace : ∀ {i : Nat} {b : Bar}, i < L → barD (dart D d i) = b → placeP b (pathB D d L) 0 = i := by
    intro i b hi e
    have := placeP_at hnd (i := i) (by rw [pathB_len]; exact hi) 0 b (by rw [pathB_get hi, e])
    omega
  have harm : ∀ {k : Knot}, cnt (legsAt D k) = 4 → ∀ a, a < 4 → armB k a ∈ D := fun h4 a hc => (lget_mem D _ hc).1 (four_get_true h4 hc)
  constructor
  · intro hf k hk h4 hlt
    obtain ⟨j, hj, ej⟩ := hall _ (harm h4 2 (by omega))
    obtain ⟨i, hi, ei⟩ := hall _ (harm h4 0 (by omega))
    rw [hplace hj ej, hplace hi ei] at hlt
    obtain ⟨s, s1, s2, s3, s4, s5⟩ := pass_four ha h0 hd4 hL h4 hj (by omega) ej
    obtain ⟨r, r1, r2, r3, r4⟩ := hf s s1 s2 (by rw [s3]; exact h4)
    have hby : 3 - (dart D d (s - 1)).2 = 2 ∨ 3 - (dart D d (s - 1)).2 = 3 := by
      rcases s5 with ⟨h, _⟩ | ⟨h, _⟩
      · exact .inl h
      · exact .inr h
    have hrs : r ≠ s := fun e => by rw [e] at r4; omega
    -- the visit r is by the upper bars
    obtain ⟨a1, b1⟩ := hok (r - 1) (by omega)
    have hk' : armK (dart D d (r - 1)).1 (dart D d (r - 1)).2 = k := by
      have : dart D d r = nxt D (dart D d (r - 1)) := by
        have e : r = (r - 1) + 1 := by omega
        rw [e]; rfl
      rw [r3.symm.trans rfl, this] at s3
      exact s3
    rcases (by omega : 3 - (dart D d (r - 1)).2 = 0 ∨ 3 - (dart D d (r - 1)).2 = 1) with hy | hy
    · have : barD (dart D d (r - 1)) = armB k 0 := by
        have := armB_rev (dart D d (r - 1)).1 a1
        rw [hk', hy] at this
        exact this.symm
      have e := hplace (i := r - 1) (by omega) this
      rw [hplace hi ei] at e
      omega
    · have hd : dart D d r = (k, 0) := by
        have e : dart D d r = nxt D (dart D d (r - 1)) := by
          have e : r = (r - 1) + 1 := by omega
          rw [e]; rfl
        rw [e]
        unfold nxt
        rw [hk', hy, onw_four h4]
        rfl
      have : barD (dart D d r) = armB k 0 := by rw [hd]; rfl
      have e := hplace (i := r) (by omega) this
      rw [hplace hi ei] at e
      omega
  · intro hp s s1 s2 h4
    obtain ⟨k, hk⟩ : ∃ k, (dart D d s).1 = k := ⟨_, rfl⟩
    rw [hk] at h4 ⊢
    have hpk := hp k (by
      rw [← hk]
      exact List.mem_map.2 ⟨s, List.mem_range.2 (by omega), rfl⟩) h4
    by_cases hby : 3 - (dart D d (s - 1)).2 < 2
    · exact ⟨s, s1, Nat.le_refl _, hk, hby⟩
    · obtain ⟨i, hi, ei⟩ := hall _ (harm h4 0 (by omega))
      obtain ⟨j, hj, ej⟩ := hall _ (harm h4 2 (by omega))
      rw [hplace hj ej, hplace hi ei] at hpk
      obtain ⟨r, r1, r2, r3, r4, r5⟩ := pass_four ha h0 hd4 hL h4 hi (by omega) ei
      -- the visit s is by the lower bars, so j is s or s - 1
      obtain ⟨a1, b1⟩ := hok (s - 1) (by omega)
      have e1 : dart D d s = nxt D (dart D d (s - 1)) := by
        have e : s = (s - 1) + 1 := by omega
        rw [e]; rfl
      have hk' : armK (dart D d (s - 1)).1 (dart D d (s - 1)).2 = k := by
        rw [e1] at hk
        exact hk
      have hjs : j = s ∨ j = s - 1 := by
        rcases (by omega : 3 - (dart D d (s - 1)).2 = 2 ∨ 3 - (dart D d (s - 1)).2 = 3) with hy | hy
        · have : barD (dart D d (s - 1)) = armB k 2 := by
            have := armB_rev (dart D d (s - 1)).1 a1
            rw [hk', hy] at this
            exact this.symm
          have e := hplace (i := s - 1) (by omega) this
          rw [hplace hj ej] at e
          omega
        · have hd : dart D d s = (k, 2) := by
            rw [e1]
            unfold nxt
            rw [hk', hy, onw_four h4]
            rfl
          have : barD (dart D d s) = armB k 2 := by rw [hd]; rfl
          have e := hplace (i := s) (by omega) this
          rw [hplace hj ej] at e
          omega
      have hij : i ≠ j := fun e => by
        rw [e, ej] at ei
        simp only [armB, Prod.mk.injEq] at ei
        omega
      refine ⟨r, r1, by omega, r3, ?_⟩
      rcases r5 with ⟨h, _⟩ | ⟨h, _⟩
      · rw [h]; omega
      · rw [h]; decide
end
/-- whether the program takes its walk for a run: as the reference does -/
theorem isRun_walk {D : List Bar} {k : Knot} (ho : ¬ evn D k) {L : Nat} (hL : WEnd D (k, arm0 D k) L) :
    isRunP D (walkL D k) = true ↔ fineW D (k, arm0 D k) L ∧ cnt (legsAt D (dart D (k, arm0 D k) L).1) = 1 ∧ L = D.length := by
  obtain ⟨ha, hb⟩ := arm0_ok (odd_ne ho)
  have hle := hL.le ha hb ho
  have hw : walkL D k = pathK D (k, arm0 D k) (L + 1) := wk_eq _ _ _ hle hL
  have hp : passP (walkL D k) = pathB D (k, arm0 D k) L := by
    rw [hw]
    exact pass_path _ _ fun t ht => (dart_ok (n := L - 1) ha hb (fun t h1 h2 => hL.even t h1 (by omega)) t (by omega)).1
  unfold isRunP
  rw [hp, pathB_len, hw, pathK_last, Bool.and_eq_true, Bool.and_eq_true, beq_iff_eq, beq_iff_eq, List.all_eq_true]
  have hq : (∀ x ∈ pathK D (k, arm0 D k) (L + 1), (!(cnt (legsAt D x) == 4 && decide (placeP (armB x 2) (pathB D (k, arm0 D k) L) 0 < placeP (armB x 0) (pathB D (k, arm0 D k) L) 0))) = true) ↔
      ∀ x ∈ pathK D (k, arm0 D k) (L + 1), cnt (legsAt D x) = 4 → ¬ placeP (armB x 2) (pathB D (k, arm0 D k) L) 0 < placeP (armB x 0) (pathB D (k, arm0 D k) L) 0 := by
    constructor
    · intro h x hx h4
      have := h x hx
      simp [h4] at this
      omega
    · intro h x hx
      by_cases h4 : cnt (legsAt D x) = 4
      · have := h x hx h4
        simp [h4]
        omega
      · simp [h4]
  rw [hq]
  constructor
  · rintro ⟨⟨h1, h2⟩, h3⟩
    exact ⟨(fine_place ha hb ho hL h1).2 h3, h2, h1⟩
  · rintro ⟨h1, h2, h3⟩
    exact ⟨⟨h3, h2⟩, (fine_place ha hb ho hL h3).1 h1⟩
end Go.Proofs.YtpompeancmonbaaGreat

/- Sorting knots and bars: the library's sort by its contract, at a row of the call's own. Conditions: a row of at most a million elements. -/
namespace Go.Proofs.YtpompeancmonbaaGreat
open Go.RowKit Go.Sort Go.Shelf
set_option maxHeartbeats 2000000
set_option maxRecDepth 100000

/-! ## a row that the sort has turned -/
theorem flat_len {α : Type} {enc : α → List Value} {sz : Nat} (hk : ∀ x, (enc x).length = sz) : ∀ l : List α, (l.flatMap enc).length = l.length * sz
  | [] => by simp
  | x :: r => by rw [List.flatMap_cons, List.length_append, hk, flat_len hk r, List.length_cons, Nat.succ_mul]; omega
section
variable {α : Type} [Inhabited α] {enc : α → List Value} {sz : Nat} {e : TypeId} {w : World}
theorem flatK_get (hk : ∀ x, (enc x).length = sz) {l : List α} {t : Nat} (ht : t < l.length * sz) : (flatK enc sz l.toArray)[t]! = (l.flatMap enc)[t]! := by
  have hpos : 0 < sz := by
    rcases Nat.eq_zero_or_pos sz with h | h
    · rw [h] at ht; simp at ht
    · exact h
  have hd : t / sz < l.length := Nat.div_lt_of_lt_mul (by rw [Nat.mul_comm]; exact ht)
  have hm : t % sz < (enc l[t / sz]).length := by rw [hk]; exact Nat.mod_lt _ hpos
  have h := flat_get hk l (t / sz) l[t / sz] (t % sz) _ (List.getElem?_eq_getElem hd) (List.getElem?_eq_getElem hm)
  have hdm : t / sz * sz + t % sz = t := by rw [Nat.mul_comm]; exact Nat.div_add_mod t sz
  rw [hdm] at h
  rw [get_flatK _ _ _ _ (by simpa using ht), getElem!_pos l.toArray (t / sz) (by simpa using hd)]
  simp only [List.getElem_toArray]
  simp only [List.getElem!_eq_getElem?_getD, h, List.getElem?_eq_getElem hm]
theorem own_holds (hk : ∀ x, (enc x).length = sz) {base g cap : Nat} {l : List α} (h : Own enc sz base e w (.slice (some ⟨g, 0, none⟩) l.length cap) l) : HoldsK enc sz w g 0 l.toArray ∧ g < w.heap.size := by
  obtain ⟨hl, hc⟩ := h
  rcases hc with ⟨hv, _⟩ | ⟨g', cap', cur, hv, hg, hh, hnc, hcm, hcs, htk⟩
  · cases hv
  · obtain ⟨rfl, rfl⟩ : g = g' ∧ cap = cap' := by simpa using hv
    have hlt := (Array.getElem?_eq_some_iff.1 hh).1
    refine ⟨fun j hj => ?_, hlt⟩
    have hj' : j < l.length * sz := by simpa using hj
    refine ⟨?_, by simp [World.frozen?, hh]⟩
    rw [Nat.zero_add, cell_of_row w g j cur e (0, 0) hh, flatK_get hk hj', ← htk]
    have hj2 : j < cur.size := by rw [hcs]; exact Nat.lt_of_lt_of_le hj' (Nat.mul_le_mul_right _ hnc)
    simp [List.getElem!_eq_getElem?_getD, hj', hj2]
theorem own_sorted (hk : ∀ x, (enc x).length = sz) {base g cap : Nat} {l l' : List α} (h : Own enc sz base e w (.slice (some ⟨g, 0, none⟩) l.length cap) l) (hll : l'.length = l.length) (n : Nat) (os : Array Obj) :
    Own enc sz base e (sortWorldK enc sz w g 0 n l'.toArray os) (.slice (some ⟨g, 0, none⟩) l.length cap) l' ∧ w.grownBy (sortWorldK enc sz w g 0 n l'.toArray os) (some g) := by
  obtain ⟨hl, hc⟩ := h
  rcases hc with ⟨hv, _⟩ | ⟨g', cap', cur, hv, hg, hh, hnc, hcm, hcs, htk⟩
  · cases hv
  · obtain ⟨rfl, rfl⟩ : g = g' ∧ cap = cap' := by simpa using hv
    have hlt := (Array.getElem?_eq_some_iff.1 hh).1
    have hheap : ∀ k, k < w.heap.size → (sortWorldK enc sz w g 0 n l'.toArray os).heap[k]? = if g = k then some (.cells (putCells id 0 (flatK enc sz l'.toArray) cur) e (0, 0)) else w.heap[k]? := by
      intro k hk'
      have e1 : (sortWorldK enc sz w g 0 n l'.toArray os).heap[k]? = (mapBlock w g (putCells id 0 (flatK enc sz l'.toArray))).heap[k]? := by
        show (_ ++ os)[k]? = _
        rw [Array.getElem?_append_left (by simpa [putRowK, putRow, mapBlock, Sort.ahead] using hk')]
        rfl
      rw [e1]
      simp only [mapBlock, Array.getElem?_modify]
      by_cases hgk : g = k
      · subst hgk
        simp [hh, onCells]
      · simp [hgk]
    refine ⟨⟨by rw [flat_len hk, hll], .inr ⟨g, cap, putCells id 0 (flatK enc sz l'.toArray) cur, by rw [hll], hg, by rw [hheap g hlt, if_pos rfl], by omega, hcm, by simpa [putCells] using hcs, ?_⟩⟩, ?_⟩
    · apply List.ext_getElem?
      intro t
      rw [List.getElem?_take]
      by_cases ht : t < l'.length * sz
      · have ht2 : t < cur.size := by rw [hcs]; exact Nat.lt_of_lt_of_le ht (Nat.mul_le_mul_right _ (by omega))
        have h3 : t < (l'.flatMap enc).length := by rw [flat_len hk]; exact ht
        have h4 := flatK_get hk ht
        rw [List.getElem!_eq_getElem?_getD, List.getElem?_eq_getElem h3] at h4
        simp only [Option.getD_some] at h4
        rw [if_pos ht, List.getElem?_eq_getElem h3]
        simp only [putCells, Array.toList_mapIdx, List.getElem?_mapIdx, Array.getElem?_toList, Array.getElem?_eq_getElem ht2, Option.map_some, Nat.zero_le, true_and, Nat.zero_add, size_flatK, List.size_toArray, ht, if_true, Nat.sub_zero, id_eq]
        rw [h4]
      · rw [if_neg ht, List.getElem?_eq_none (by rw [flat_len hk]; omega)]
    · refine ⟨rfl, rfl, rfl, ?_, fun k hk' hne => ?_⟩
      · show w.heap.size ≤ (_ ++ os).size
        rw [Array.size_append]
        simp [putRowK, putRow, mapBlock, Sort.ahead]
      · rw [hheap k hk', if_neg (fun e => hne (by rw [e]))]
end

/-! ## the two orders -/
def cfK (a b : Knot) : Int := knotCmp a.1 a.2 b.1 b.2
def cfB (a b : Bar) : Int := barCmpM a.1 a.2.1 a.2.2 b.1 b.2.1 b.2.2
theorem ltK_iff (a b : Knot) : ltOf cfK a b = true ↔ kltP a b := by
  unfold ltOf cfK knotCmp kltP cmpI firstI firstI firstI
  simp only [decide_eq_true_eq]
  repeat' split
  all_goals omega
theorem ltB_iff (a b : Bar) : ltOf cfB a b = true ↔ bltP a b := by
  rw [bltP_iff]
  unfold ltOf cfB barCmpM cmpI firstI firstI firstI firstI
  simp only [decide_eq_true_eq]
  repeat' split
  all_goals omega
theorem bltP_tri {a b : Bar} (h : ¬ bltP a b) (hne : a ≠ b) : bltP b a := by
  rw [bltP_iff] at h ⊢
  have : ¬ (a.1 = b.1 ∧ a.2.1 = b.2.1 ∧ a.2.2 = b.2.2) := fun ⟨h1, h2, h3⟩ => hne (Prod.ext h1 (Prod.ext h2 h3))
  omega
theorem swo_of {α : Type} {lt : α → α → Bool} {R : α → α → Prop} (hi : ∀ a b, lt a b = true ↔ R a b) (irr : ∀ a, ¬ R a a) (tr : ∀ a b c, R a b → R b c → R a c) (tri : ∀ a b, ¬ R a b → a ≠ b → R b a) : SWO lt where
  irrefl x := by
    have := irr x
    rw [← hi] at this
    simpa using this
  trans x y z h1 h2 := (hi _ _).2 (tr _ _ _ ((hi _ _).1 h1) ((hi _ _).1 h2))
  ntrans x y z h1 h2 := by
    have g1 : ¬ R x y := fun h => by rw [(hi _ _).2 h] at h1; cases h1
    have g2 : ¬ R y z := fun h => by rw [(hi _ _).2 h] at h2; cases h2
    have : ¬ R x z := fun h => by
      by_cases e : x = y
      · subst e; exact g2 h
      · by_cases e' : y = z
        · subst e'; exact g1 h
        · have r1 := tri _ _ g1 e
          have r2 := tri _ _ g2 e'
          exact irr x (tr _ _ _ h (tr _ _ _ r2 r1))
    cases hh : lt x z
    · rfl
    · exact absurd ((hi _ _).1 hh) this
theorem swoK : SWO (ltOf cfK) := swo_of ltK_iff kltP_irr kltP_tr fun _ _ => kltP_tri
theorem swoB : SWO (ltOf cfB) := swo_of ltB_iff bltP_irrefl (fun _ _ _ => bltP_trans) fun _ _ => bltP_tri
theorem total_of {α : Type} [DecidableEq α] {lt : α → α → Bool} {R : α → α → Prop} (hi : ∀ a b, lt a b = true ↔ R a b) (tri : ∀ a b, ¬ R a b → a ≠ b → R b a) (x y : α) (h1 : lt x y = false) (h2 : lt y x = false) : x = y := by
  by_cases e : x = y
  · exact e
  · have g1 : ¬ R x y := fun h => by rw [(hi _ _).2 h] at h1; cases h1
    have := (hi _ _).2 (tri _ _ g1 e)
    rw [this] at h2
    cases h2
def srtK (l : List Knot) : List Knot := l.mergeSort fun x y => !(ltOf cfK) y x
def srtB (l : List Bar) : List Bar := l.mergeSort fun x y => !(ltOf cfB) y x
theorem srtK_mem (l : List Knot) (x : Knot) : x ∈ srtK l ↔ x ∈ l := List.mem_mergeSort
theorem srtB_mem (l : List Bar) (x : Bar) : x ∈ srtB l ↔ x ∈ l := List.mem_mergeSort
theorem srtK_length (l : List Knot) : (srtK l).length = l.length := List.length_mergeSort l
theorem srtB_length (l : List Bar) : (srtB l).length = l.length := List.length_mergeSort l
theorem sorted_of {α : Type} {lt : α → α → Bool} {R : α → α → Prop} (hi : ∀ a b, lt a b = true ↔ R a b) (hS : SWO lt) (tri : ∀ a b, ¬ R a b → a ≠ b → R b a) (l : List α) :
    (l.mergeSort fun x y => !lt y x).Pairwise fun a b => a = b ∨ R a b := by
  have h := List.pairwise_mergeSort (le := fun x y => !lt y x) (fun a b c h1 h2 => by
    simp only [Bool.not_eq_eq_eq_not, Bool.not_true] at h1 h2 ⊢
    exact hS.ntrans _ _ _ h2 h1) (fun a b => by
    cases h1 : lt b a
    · simp
    · cases h2 : lt a b
      · simp
      · exact absurd (hS.trans _ _ _ h1 h2) (by rw [hS.irrefl]; simp)) l
  refine h.imp fun {a b} hab => ?_
  have g : ¬ R b a := fun hr => by rw [(hi _ _).2 hr] at hab; simp at hab
  by_cases e : a = b
  · exact .inl e
  · exact .inr (tri _ _ g (Ne.symm e))
theorem srtK_sorted {l : List Knot} (hn : l.Nodup) : (srtK l).Pairwise kltP := by
  have h1 := sorted_of ltK_iff swoK (fun _ _ => kltP_tri) l
  have h2 : (srtK l).Nodup := (List.mergeSort_perm l _).nodup_iff.2 hn
  exact (h1.and h2).imp fun ⟨h, hne⟩ => h.resolve_left hne
theorem srtB_sorted {l : List Bar} (hn : l.Nodup) : (srtB l).Pairwise bltP := by
  have h1 := sorted_of ltB_iff swoB (fun _ _ => bltP_tri) l
  have h2 : (srtB l).Nodup := (List.mergeSort_perm l _).nodup_iff.2 hn
  exact (h1.and h2).imp fun ⟨h, hne⟩ => h.resolve_left hne
theorem srtB_weak (l : List Bar) : (srtB l).Pairwise fun a b => a = b ∨ bltP a b := sorted_of ltB_iff swoB (fun _ _ => bltP_tri) l

theorem kcmpLays (blk off size : Nat) (w : World) : CmpLays Tryz.prog 101 #[] kc 2 cfK blk off size w := fun m os dk _ x y =>
  (kcmp_ex x.1 x.2 y.1 y.2 (sortWorldK kc 2 w blk off m dk os)).mono fun _ _ ⟨he, q, os', hw⟩ => ⟨he, q, os', hw⟩
theorem bcmpLays (blk off size : Nat) (w : World) : CmpLays Tryz.prog 107 #[] bc 3 cfB blk off size w := fun m os dk _ x y =>
  (bcmp_ex x.1 x.2.1 x.2.2 y.1 y.2.1 y.2.2 (sortWorldK bc 3 w blk off m dk os)).mono fun _ _ ⟨he, q, os', hw⟩ => ⟨he, q, os', hw⟩

theorem sortK_any {v : Value} {base : Nat} (l : List Knot) (w : World) (h : OwK base w v l) (hlen : l.length ≤ 1000000) :
    Calls Tryz.prog 100 #[v, .func (.func 101) #[] #[]] w fun e w' => e = .returned (.tuple #[]) ∧ OwK base w' v (srtK l) ∧ w.grownBy w' v.ownBlock := by
  rcases h.2 with ⟨rfl, hn⟩ | ⟨g, cap, cur, rfl, _⟩
  · obtain rfl : l = [] := List.eq_nil_of_length_eq_zero hn
    exact (AnyF.slices_SortFunc_none lay_sortK none 0 _ w).mono fun e w' ⟨he, hw⟩ => ⟨he, by subst hw; simpa [srtK] using h, by subst hw; exact World.grownBy.refl _ _⟩
  · obtain ⟨hH, hg⟩ := own_holds kc_len h
    have hcon := AnyQ.slices_SortFunc_total lay_sortK 2 Tryz.isAgg32 Tryz.sizeOf32 kc kc_len (fun x u hu => kc_one x u hu) cfK swoK 101 #[] g 0 cap l.toArray w
      (enters_of Tryz.func101 (by kernel_rfl) rfl) (kcmpLays g 0 _ w) hH hg (by simp; omega) (total_of ltK_iff fun _ _ => kltP_tri)
    refine Calls.mono (R := fun e w' => e = .returned (.tuple #[]) ∧ ∃ n os, w' = sortWorldK kc 2 w g 0 n (srtK l).toArray os) ?_ ?_
    · exact hcon
    · rintro e w' ⟨he, n, os, rfl⟩
      obtain ⟨h1, h2⟩ := own_sorted kc_len h (srtK_length l) n os
      exact ⟨he, h1, h2⟩
theorem sortB_any {v : Value} {base : Nat} (l : List Bar) (w : World) (h : OwB base w v l) (hlen : l.length ≤ 1000000) :
    Calls Tryz.prog 84 #[v, .func (.func 107) #[] #[]] w fun e w' => e = .returned (.tuple #[]) ∧ OwB base w' v (srtB l) ∧ w.grownBy w' v.ownBlock := by
  rcases h.2 with ⟨rfl, hn⟩ | ⟨g, cap, cur, rfl, _⟩
  · obtain rfl : l = [] := List.eq_nil_of_length_eq_zero hn
    exact (AnyF.slices_SortFunc_none lay_sortB none 0 _ w).mono fun e w' ⟨he, hw⟩ => ⟨he, by subst hw; simpa [srtB] using h, by subst hw; exact World.grownBy.refl _ _⟩
  · obtain ⟨hH, hg⟩ := own_holds bc_len h
    have hcon := AnyQ.slices_SortFunc_total lay_sortB 3 Tryz.isAgg46 Tryz.sizeOf46 bc bc_len (fun x u hu => bc_one x u hu) cfB swoB 107 #[] g 0 cap l.toArray w
      (enters_of Tryz.func107 (by kernel_rfl) rfl) (bcmpLays g 0 _ w) hH hg (by simp; omega) (total_of ltB_iff fun _ _ => bltP_tri)
    refine Calls.mono (R := fun e w' => e = .returned (.tuple #[]) ∧ ∃ n os, w' = sortWorldK bc 3 w g 0 n (srtB l).toArray os) ?_ ?_
    · exact hcon
    · rintro e w' ⟨he, n, os, rfl⟩
      obtain ⟨h1, h2⟩ := own_sorted bc_len h (srtB_length l) n os
      exact ⟨he, h1, h2⟩
end Go.Proofs.YtpompeancmonbaaGreat

/- The least trimming: the program's search, with what it leaves out, finds what the reference's finds: plain. Conditions: bars within bounds, each once. -/
import Derived.Test.YtpompeancmonbaaGreatE24
namespace Go.Proofs.YtpompeancmonbaaGreat

theorem same_len {l r : List Bar} (hl : l.Nodup) (hr : r.Nodup) (h : ∀ b, b ∈ l ↔ b ∈ r) : l.length = r.length :=
  Nat.le_antisymm (length_le_of_sub hl fun x hx => (h x).1 hx) (length_le_of_sub hr fun x hx => (h x).2 hx)
theorem oddK_nodup (D : List Bar) : (oddK D).Nodup := (List.Pairwise.filter _ (holeK_sorted D)).imp fun hab e => by subst e; exact kltP_irr _ hab
theorem oddK_mem {D : List Bar} (hs : ∀ b ∈ D, Sided b) {k : Knot} : k ∈ oddK D ↔ oddL (legsAt D k) = true := by
  unfold oddK
  rw [List.mem_filter, holeK_mem hs]
  constructor
  · exact fun h => h.2
  · exact fun h => ⟨odd_legs h, h⟩
theorem odd_add {D D' : List Bar} {b : Bar} (hs : ∀ x ∈ D, Sided x) (hn : D.Nodup) (hb : Sided b) (h : ∀ x, x ∈ D' ↔ x ∈ D ∨ x = b) : (oddK D).length ≤ (oddK D').length + 2 := by
  have hs' : ∀ x ∈ D', Sided x := fun x hx => by
    rcases (h x).1 hx with h | rfl
    · exact hs x h
    · exact hb
  have := length_le_of_sub (l := oddK D) (D := oddK D' ++ [lowK b, uppK b]) (oddK_nodup D) (fun k hk => by
    by_cases h1 : k = lowK b
    · simp [h1]
    · by_cases h2 : k = uppK b
      · simp [h2]
      · refine List.mem_append_left _ ((oddK_mem hs').2 ?_)
        have e : legsAt D' = legsAt (dset D b true) := legsAt_congr fun x => by
          rw [h, dset_mem hn]
          by_cases e : x = b <;> simp [e]
        rw [e, legsAt_other hn h1 h2]
        exact (oddK_mem hs).1 hk)
  simpa using this
theorem rls_le : ∀ (n : Nat) (D l z : List Bar), rls n D l = some z → n ≤ l.length
  | 0, _, _, _, _ => Nat.zero_le _
  | n + 1, D, l, z, h => by
    unfold rls at h
    induction l with
    | nil => cases h
    | cons x r ih =>
      unfold tryR at h
      split at h
      · rename_i y hy
        have := rls_le n _ _ _ hy
        simp only [List.length_cons]
        omega
      · have := ih h
        simp only [List.length_cons]
        omega
theorem tog_one (D : List Bar) (b x : Bar) : x ∈ tog D [b] ↔ x ∈ D ∨ x = b := by rw [tog_mem]; simp
theorem rdy_odd {D : List Bar} (h : rdyB D = true) : (oddK D).length = 2 := by
  unfold rdyB at h
  by_cases h2 : (oddK D).length = 2
  · exact h2
  · rw [runO_len h2] at h; cases h
theorem rls_odd : ∀ (n : Nat) (D l z : List Bar), D.Pairwise bltP → (∀ b ∈ D, Sided b) → (∀ b ∈ l, Sided b) → rls n D l = some z → (oddK D).length ≤ 2 * n + 2
  | 0, D, l, z, _, _, _, h => by
    unfold rls at h
    split at h
    · rename_i hr; rw [rdy_odd hr]; omega
    · cases h
  | n + 1, D, l, z, hD, hs, hl, h => by
    unfold rls at h
    induction l with
    | nil => cases h
    | cons x r ih =>
      unfold tryR at h
      split at h
      · rename_i y hy
        have hx := hl x (by simp)
        have := rls_odd n (tog D [x]) r y (tog_sorted _ _ hD) (fun b hb => by
          rcases (tog_one D x b).1 hb with h | rfl
          · exact hs b h
          · exact hx) (fun b hb => hl b (by simp [hb])) hy
        have h2 := odd_add hs (sortedB_nodup hD) hx (fun y => tog_one D x y)
        omega
      · exact ih (fun b hb => hl b (by simp [hb])) h
theorem tryR_none {n : Nat} {D : List Bar} : ∀ {l : List Bar}, l.length < n + 1 → tryR (rls n) D l = none
  | [], _ => rfl
  | x :: r, h => by
    unfold tryR
    cases e : rls n (tog D [x]) r with
    | none => exact tryR_none (by simp only [List.length_cons] at h; omega)
    | some z =>
      have := rls_le n _ _ _ e
      simp only [List.length_cons] at h
      omega
theorem srch_rls : ∀ (n : Nat) (D D' l : List Bar), D.Nodup → D'.Pairwise bltP → (∀ b, b ∈ D ↔ b ∈ D') → (∀ b ∈ D, Sided b) → (∀ b ∈ l, Sided b) → l.Nodup → (∀ b ∈ l, b ∉ D) → srch n D l = rls n D' l
  | 0, D, D', l, hD, hD', hm, _, _, _, _ => by
    unfold srch rls rdyB
    rw [runO_congr hm (same_len hD (sortedB_nodup hD') hm)]
  | n + 1, D, D', l, hD, hD', hm, hs, hl, hln, hdis => by
    have hs' : ∀ b ∈ D', Sided b := fun b hb => hs b ((hm b).2 hb)
    have ho : oddK D = oddK D' := by simp only [oddK, holeK_congr hm, legsAt_congr hm]
    unfold srch
    by_cases hp : 2 * (n + 1) + 2 < (oddK D).length
    · rw [if_pos hp]
      cases e : rls (n + 1) D' l with
      | none => rfl
      | some z =>
        have := rls_odd (n + 1) D' l z hD' hs' hl e
        rw [← ho] at this
        omega
    · rw [if_neg hp]
      unfold rls
      clear hp
      induction l with
      | nil => rfl
      | cons b r ih =>
        unfold tryB
        by_cases hr : r.length + 1 < n + 1
        · rw [if_pos hr, tryR_none (by simpa using hr)]
        · rw [if_neg hr]
          unfold tryR
          obtain ⟨hbr, hrn⟩ := List.nodup_cons.1 hln
          have hbD := hdis b (by simp)
          have e : srch n (D ++ [b]) r = rls n (tog D' [b]) r := srch_rls n (D ++ [b]) (tog D' [b]) r
            (List.nodup_append.2 ⟨hD, by simp, fun x hx y hy e => by
              obtain rfl : y = b := by simpa using hy
              subst e
              exact hbD hx⟩)
            (tog_sorted _ _ hD') (fun x => by rw [tog_one, List.mem_append, hm]; simp)
            (fun x hx => by
              rcases List.mem_append.1 hx with h | h
              · exact hs x h
              · obtain rfl : x = b := by simpa using h
                exact hl x (by simp))
            (fun x hx => hl x (by simp [hx])) hrn (fun x hx hm => by
              rcases List.mem_append.1 hm with h | h
              · exact hdis x (by simp [hx]) h
              · obtain rfl : x = b := by simpa using h
                exact hbr hx)
          rw [e]
          cases rls n (tog D' [b]) r with
          | some z => rfl
          | none => exact ih (fun x hx => hl x (by simp [hx])) hrn (fun x hx => hdis x (by simp [hx]))
theorem trimF_rtrF {N D : List Bar} (hok : TornOk N D) : ∀ f n, trimF D (wout N D) f n = rtrF D (wout N D) f n
  | 0, _ => rfl
  | f + 1, n => by
    unfold trimF rtrF
    rw [srch_rls n D D (wout N D) hok.dam.nodup hok.dam.sorted (fun _ => Iff.rfl) (fun b hb => (hok.dam.ok b hb).2.2) (fun b hb => (hok.net.ok b (wout_mem.1 hb).1).2.2) (sortedB_nodup (wout_sorted hok.net.sorted)) (fun b hb => (wout_mem.1 hb).2), trimF_rtrF hok f (n + 1)]
    cases rls n D (wout N D) <;> rfl
end Go.Proofs.YtpompeancmonbaaGreat

/- Sums over a hole's knots, parts of a net, and one bar less: plain. Conditions: bars within bounds, each once. -/
namespace Go.Proofs.YtpompeancmonbaaGreat

/-! ## the numbers of missing bars add up -/
theorem sum_add {α : Type} (f g : α → Nat) : ∀ l : List α, (l.map fun a => f a + g a).sum = (l.map f).sum + (l.map g).sum
  | [] => rfl
  | a :: l => by simp only [List.map_cons, List.sum_cons, sum_add f g l]; omega
theorem sum_zero {α : Type} : ∀ l : List α, (l.map fun _ => 0).sum = 0
  | [] => rfl
  | a :: l => by simp only [List.map_cons, List.sum_cons, sum_zero l]
theorem sum_notin {α : Type} [DecidableEq α] {x : α} : ∀ {l : List α}, x ∉ l → (l.map fun y => if y = x then 1 else 0).sum = 0
  | [], _ => rfl
  | a :: l, h => by
    simp only [List.mem_cons, not_or] at h
    simp only [List.map_cons, List.sum_cons, sum_notin h.2, if_neg (fun e => h.1 (Eq.symm e))]
theorem sum_one {α : Type} [DecidableEq α] {x : α} : ∀ {l : List α}, l.Nodup → x ∈ l → (l.map fun y => if y = x then 1 else 0).sum = 1
  | a :: l, hn, h => by
    rw [List.nodup_cons] at hn
    simp only [List.map_cons, List.sum_cons]
    by_cases e : a = x
    · subst e; rw [if_pos rfl, sum_notin hn.1]
    · rw [if_neg e, sum_one hn.2 ((List.mem_cons.1 h).resolve_left fun h' => e h'.symm)]
/-- a bar's share in the number of a knot -/
def shr (b : Bar) (k : Knot) : Nat := (if k = lowK b then 1 else 0) + (if k = uppK b then 1 else 0)
theorem cnt_decide (D : List Bar) (k : Knot) : cnt (legsAt D k) = (if armB k 0 ∈ D then 1 else 0) + (if armB k 1 ∈ D then 1 else 0) + (if armB k 2 ∈ D then 1 else 0) + (if armB k 3 ∈ D then 1 else 0) := by
  unfold cnt legsAt
  by_cases h0 : armB k 0 ∈ D <;> by_cases h1 : armB k 1 ∈ D <;> by_cases h2 : armB k 2 ∈ D <;> by_cases h3 : armB k 3 ∈ D <;> simp [h0, h1, h2, h3]
theorem mem_one {b x : Bar} {D : List Bar} (hb : b ∉ D) : (if x ∈ b :: D then 1 else 0) = (if x ∈ D then 1 else 0) + (if x = b then 1 else (0 : Nat)) := by
  by_cases e : x = b
  · subst e; simp [hb]
  · simp [e]
theorem shr_arms {b : Bar} (hb : Sided b) (k : Knot) : (if armB k 0 = b then 1 else 0) + (if armB k 1 = b then 1 else 0) + (if armB k 2 = b then 1 else 0) + (if armB k 3 = b then 1 else (0 : Nat)) = shr b k := by
  obtain ⟨x, y, s⟩ := b
  obtain ⟨p, q⟩ := k
  unfold shr armB lowK uppK
  unfold Sided at hb
  simp only [Prod.mk.injEq] at *
  rcases hb with rfl | rfl
  · have e0 : ¬ (p = x ∧ q = y ∧ (-1 : Int) = 1) := by omega
    have e3 : ¬ (p + 1 = x ∧ q - 1 = y ∧ (-1 : Int) = 1) := by omega
    rw [if_neg e0, if_neg e3]
    by_cases h1 : p = x ∧ q = y
    · rw [if_pos (by omega), if_neg (by omega), if_pos h1, if_neg (by omega)]
    · by_cases h2 : p = x + 1 ∧ q = y + 1
      · rw [if_neg (by omega), if_pos (by omega), if_neg h1, if_pos h2]
      · rw [if_neg (by omega), if_neg (by omega), if_neg h1, if_neg h2]
  · have e1 : ¬ (p = x ∧ q = y ∧ (1 : Int) = -1) := by omega
    have e2 : ¬ (p - 1 = x ∧ q - 1 = y ∧ (1 : Int) = -1) := by omega
    rw [if_neg e1, if_neg e2]
    by_cases h1 : p = x ∧ q = y
    · rw [if_pos (by omega), if_neg (by omega), if_pos h1, if_neg (by omega)]
    · by_cases h2 : p = x + -1 ∧ q = y + 1
      · rw [if_neg (by omega), if_pos (by omega), if_neg h1, if_pos h2]
      · rw [if_neg (by omega), if_neg (by omega), if_neg h1, if_neg h2]
theorem cnt_cons {b : Bar} {D : List Bar} (hs : Sided b) (hb : b ∉ D) (k : Knot) : cnt (legsAt (b :: D) k) = cnt (legsAt D k) + shr b k := by
  rw [cnt_decide, cnt_decide, ← shr_arms hs, mem_one hb, mem_one hb, mem_one hb, mem_one hb]
  omega
theorem sum_cnt {H : List Knot} (hH : H.Nodup) : ∀ {D : List Bar}, D.Nodup → (∀ b ∈ D, Sided b) → (∀ b ∈ D, lowK b ∈ H ∧ uppK b ∈ H) → (H.map fun k => cnt (legsAt D k)).sum = 2 * D.length
  | [], _, _, _ => by
    rw [show (fun k => cnt (legsAt [] k)) = fun _ => 0 from funext fun k => by rw [cnt_decide]; simp]
    exact sum_zero H
  | b :: D, hn, hs, hm => by
    rw [List.nodup_cons] at hn
    have hb := hm b (List.mem_cons_self ..)
    rw [show (fun k => cnt (legsAt (b :: D) k)) = fun k => cnt (legsAt D k) + ((if k = lowK b then 1 else 0) + (if k = uppK b then 1 else 0)) from funext fun k => cnt_cons (hs b (List.mem_cons_self ..)) hn.1 k]
    rw [sum_add, sum_add (fun k => if k = lowK b then 1 else 0), sum_one hH hb.1, sum_one hH hb.2, sum_cnt hH hn.2 (fun x hx => hs x (List.mem_cons_of_mem _ hx)) (fun x hx => hm x (List.mem_cons_of_mem _ hx))]
    simp only [List.length_cons]
    omega
theorem holeK_nodup (D : List Bar) : (holeK D).Nodup := (holeK_sorted D).imp fun hab e => by subst e; exact kltP_irr _ hab
theorem hole_sum {D : List Bar} (hn : D.Nodup) (hs : ∀ b ∈ D, Sided b) : ((holeK D).map fun k => cnt (legsAt D k)).sum = 2 * D.length :=
  sum_cnt (holeK_nodup D) hn hs fun b hb => ⟨(holeIn_mem _ D []).2 (Or.inr ⟨b, hb, Or.inl rfl⟩), (holeIn_mem _ D []).2 (Or.inr ⟨b, hb, Or.inr rfl⟩)⟩
theorem filter_parity {α : Type} (f : α → Nat) : ∀ l : List α, (l.filter fun a => f a % 2 == 1).length % 2 = (l.map f).sum % 2
  | [] => rfl
  | a :: l => by
    have := filter_parity f l
    rw [List.filter_cons, List.map_cons, List.sum_cons]
    by_cases h : f a % 2 = 1
    · rw [if_pos (by simpa using h), List.length_cons]; omega
    · rw [if_neg (by simpa using h)]; omega
theorem odd_even {D : List Bar} (hn : D.Nodup) (hs : ∀ b ∈ D, Sided b) : (oddK D).length % 2 = 0 := by
  have := filter_parity (fun k => cnt (legsAt D k)) (holeK D)
  rw [hole_sum hn hs] at this
  have e : oddK D = (holeK D).filter fun k => cnt (legsAt D k) % 2 == 1 := rfl
  rw [e, this]
  omega

/-! ## parts of a net -/
theorem netGo_all : ∀ (l : List Bar) (p : Option Bar), netGo p l = 0 → ∀ b ∈ l, barE b.1 b.2.1 b.2.2 = 0
  | [], _, _ => fun _ h => by cases h
  | b :: r, p, h => by
    unfold netGo at h
    split at h
    · rename_i h1; exact absurd h h1
    · rename_i h1
      split at h
      · cases h
      · intro c hc
        rcases List.mem_cons.1 hc with rfl | hc
        · simpa using h1
        · exact netGo_all r _ h c hc
theorem netGo_of : ∀ (l : List Bar) (p : Option Bar), (∀ b ∈ l, barE b.1 b.2.1 b.2.2 = 0) → l.Pairwise bltP → (∀ q, p = some q → ∀ b ∈ l, bltP q b) → netGo p l = 0
  | [], _, _, _, _ => by unfold netGo; rfl
  | b :: r, p, h1, h2, h3 => by
    rw [List.pairwise_cons] at h2
    unfold netGo
    rw [if_neg (by rw [h1 b (List.mem_cons_self ..)]; simp), if_neg ?_]
    · exact netGo_of r _ (fun c hc => h1 c (List.mem_cons_of_mem _ hc)) h2.2 fun q hq c hc => by cases hq; exact h2.1 c hc
    · cases p with
      | none => simp
      | some q =>
        have := h3 q rfl b (List.mem_cons_self ..)
        unfold bltP at this
        simp [this]
theorem netE_sub {D l : List Bar} (h : netE D = 0) (hs : l.Sublist D) : netE l = 0 := by
  have hok := netE_ok h
  have hl := hs.length_le
  unfold netE at h ⊢
  rw [if_neg (by have := hok.len; omega)] at h
  rw [if_neg (by have := hok.len; omega)]
  exact netGo_of l none (fun b hb => netGo_all D none h b (hs.subset hb)) (hok.sorted.sublist hs) fun q hq => by cases hq
theorem unk_sub {l D : List Bar} (h : ∀ b ∈ l, b ∈ D) : unk l D = false := by
  unfold unk
  rw [List.any_eq_false]
  intro b hb
  simp [hasb, h b hb]
theorem torn_nets {N D : List Bar} (h : tornE N D = 0) : netE N = 0 ∧ netE D = 0 := by
  have := firstI_zero3 h
  exact ⟨this.1, this.2.1⟩
theorem patch_sub {N D P : List Bar} (h : tornE N D = 0) (hs : P.Sublist D) : patchE N D P = 0 := by
  have h1 := netE_sub (torn_nets h).2 hs
  have h2 : netsE N D P = 0 := by
    show firstI [tornE N D, netE P] = 0
    rw [firstI_two, if_pos h, h1]
  unfold patchE
  rw [if_pos h2, unk_sub fun b hb => hs.subset hb]
  rfl
theorem some_sub {D P : List Bar} (h : netE D = 0) (hs : P.Sublist D) : someE P D = 0 := by
  unfold someE
  rw [if_pos (netE_sub h hs), unk_sub fun b hb => hs.subset hb]
  rfl
theorem wout_nil (D : List Bar) : wout D [] = D := by
  unfold wout
  rw [List.filter_eq_self]
  intro b _
  simp [hasb]
theorem wout_self (D : List Bar) : wout D D = [] := by
  unfold wout
  rw [List.filter_eq_nil_iff]
  intro b hb
  simp [hasb, hb]
theorem filter_two {α : Type} (p : α → Bool) : ∀ l : List α, (l.filter p).length + (l.filter fun a => !p a).length = l.length
  | [] => rfl
  | a :: l => by
    have := filter_two p l
    rw [List.filter_cons, List.filter_cons]
    cases p a <;> simp <;> omega
theorem wout_length {D P : List Bar} (hD : D.Nodup) (hP : P.Nodup) (hs : ∀ b ∈ P, b ∈ D) : (wout D P).length + P.length = D.length := by
  have h1 := filter_two (hasb P) D
  have h2 : P.length = (D.filter (hasb P)).length := same_len hP (hD.filter _) fun b => by
    rw [List.mem_filter]
    simp only [hasb, decide_eq_true_eq]
    exact ⟨fun h => ⟨hs b h, h⟩, fun h => h.2⟩
  have h3 : wout D P = D.filter fun a => !hasb P a := rfl
  rw [h3]
  omega
theorem rdy_none : rdyB [] = false := by
  cases h : rdyB []
  · rfl
  · have := rdy_odd h
    cases this

/-! ## one bar less -/
theorem odd_less {D D' : List Bar} {b : Bar} (hs : ∀ x ∈ D, Sided x) (hn : D.Nodup) (h : ∀ x, x ∈ D' ↔ x ∈ D ∧ x ≠ b) : (oddK D).length ≤ (oddK D').length + 2 ∧ (oddK D').length ≤ (oddK D).length + 2 := by
  have hs' : ∀ x ∈ D', Sided x := fun x hx => hs x ((h x).1 hx).1
  have e : legsAt D' = legsAt (dset D b false) := legsAt_congr fun x => by
    rw [h, dset_mem hn]
    by_cases e : x = b <;> simp [e]
  have key : ∀ k, k ≠ lowK b → k ≠ uppK b → legsAt D' k = legsAt D k := fun k h1 h2 => by rw [e]; exact legsAt_other hn h1 h2 false
  have c1 := length_le_of_sub (l := oddK D) (D := oddK D' ++ [lowK b, uppK b]) (oddK_nodup D) (fun k hk => by
    by_cases h1 : k = lowK b
    · simp [h1]
    · by_cases h2 : k = uppK b
      · simp [h2]
      · exact List.mem_append_left _ ((oddK_mem hs').2 (by rw [key k h1 h2]; exact (oddK_mem hs).1 hk)))
  have c2 := length_le_of_sub (l := oddK D') (D := oddK D ++ [lowK b, uppK b]) (oddK_nodup D') (fun k hk => by
    by_cases h1 : k = lowK b
    · simp [h1]
    · by_cases h2 : k = uppK b
      · simp [h2]
      · exact List.mem_append_left _ ((oddK_mem hs).2 (by rw [← key k h1 h2]; exact (oddK_mem hs').1 hk)))
  simp only [List.length_append, List.length_cons, List.length_nil] at c1 c2
  omega
end Go.Proofs.YtpompeancmonbaaGreat

/- The run of a torn net that is ready, plain: how often it passes a knot, and from where. Conditions: bars within bounds, each once. -/
namespace Go.Proofs.YtpompeancmonbaaGreat

theorem cnt_sum (k : Knot) : ∀ {D : List Bar}, D.Nodup → (∀ b ∈ D, Sided b) → cnt (legsAt D k) = (D.map fun b => shr b k).sum
  | [], _, _ => by rw [cnt_decide]; simp
  | b :: D, hn, hs => by
    rw [List.nodup_cons] at hn
    rw [cnt_cons (hs b (List.mem_cons_self ..)) hn.1, cnt_sum k hn.2 (fun x hx => hs x (List.mem_cons_of_mem _ hx)), List.map_cons, List.sum_cons, Nat.add_comm]
theorem shr_dart {d : Dart} (ha : d.2 < 4) (k : Knot) : shr (barD d) k = (if d.1 = k then 1 else 0) + (if armK d.1 d.2 = k then 1 else 0) := by
  obtain ⟨⟨x, y⟩, a⟩ := d
  obtain ⟨p, q⟩ := k
  simp only at ha
  obtain rfl | rfl | rfl | rfl : a = 0 ∨ a = 1 ∨ a = 2 ∨ a = 3 := by omega
  all_goals
    simp only [shr, barD, armB, armK, lowK, uppK, Prod.mk.injEq]
    (repeat' split) <;> omega
/-- how often the walk has passed a knot before step n -/
def vs (D : List Bar) (d : Dart) (k : Knot) : Nat → Nat
  | 0 => 0
  | n + 1 => vs D d k n + if 0 < n ∧ (dart D d n).1 = k then 1 else 0
section
variable {D : List Bar} {d : Dart} {L : Nat} {k : Knot}
theorem pathB_snoc (n : Nat) : pathB D d (n + 1) = pathB D d n ++ [barD (dart D d n)] := by
  unfold pathB
  rw [List.range_succ, List.map_append]; rfl
theorem vs_sum : ∀ n, (∀ t, t ≤ n → (dart D d t).2 < 4) → ((pathB D d (n + 1)).map fun b => shr b k).sum = 2 * vs D d k (n + 1) + (if d.1 = k then 1 else 0) + (if (dart D d (n + 1)).1 = k then 1 else 0)
  | 0, h => by
    have := shr_dart (h 0 (Nat.le_refl _)) k
    have e0 : pathB D d 0 = [] := rfl
    have e2 : vs D d k (0 + 1) = 0 := by simp [vs]
    rw [pathB_snoc, e0, List.nil_append, List.map_cons, List.map_nil, List.sum_cons, List.sum_nil, this, e2]
    show _ = 2 * 0 + (if (dart D d 0).1 = k then 1 else 0) + (if armK (dart D d 0).1 (dart D d 0).2 = k then 1 else 0)
    omega
  | n + 1, h => by
    have ih := vs_sum n (fun t ht => h t (by omega))
    have hd := shr_dart (h (n + 1) (Nat.le_refl _)) k
    have e1 : vs D d k (n + 1 + 1) = vs D d k (n + 1) + if (dart D d (n + 1)).1 = k then 1 else 0 := by
      show vs D d k (n + 1) + (if 0 < n + 1 ∧ (dart D d (n + 1)).1 = k then 1 else 0) = _
      simp
    have e : (dart D d (n + 1 + 1)).1 = armK (dart D d (n + 1)).1 (dart D d (n + 1)).2 := rfl
    rw [pathB_snoc, List.map_append, List.sum_append, ih, List.map_cons, List.map_nil, List.sum_cons, List.sum_nil, hd, e1, e]
    omega
theorem vs_mono {n : Nat} : ∀ m, n ≤ m → vs D d k n ≤ vs D d k m
  | 0, h => by obtain rfl : n = 0 := by omega
               exact Nat.le_refl _
  | m + 1, h => by
    by_cases e : n = m + 1
    · rw [e]; exact Nat.le_refl _
    · have := vs_mono (n := n) m (by omega)
      show _ ≤ vs D d k m + _
      omega
theorem vs_at {t : Nat} (h : 0 < t) : vs D d (dart D d t).1 (t + 1) = vs D d (dart D d t).1 t + 1 := by
  show vs D d _ t + _ = _
  rw [if_pos ⟨h, rfl⟩]
theorem vs_pos : ∀ n, 0 < vs D d k n → ∃ t, 0 < t ∧ t < n ∧ (dart D d t).1 = k ∧ vs D d k t = 0
  | 0, h => by simp [vs] at h
  | n + 1, h => by
    by_cases h0 : 0 < vs D d k n
    · obtain ⟨t, h1, h2, h3⟩ := vs_pos n h0
      exact ⟨t, h1, by omega, h3⟩
    · have e : vs D d k (n + 1) = vs D d k n + if 0 < n ∧ (dart D d n).1 = k then 1 else 0 := rfl
      rw [e] at h
      by_cases hk : 0 < n ∧ (dart D d n).1 = k
      · exact ⟨n, hk.1, by omega, hk.2, by omega⟩
      · rw [if_neg hk] at h; omega
/-- the walk from a dart is a run of L bars -/
structure RunAt (D : List Bar) (d : Dart) (L : Nat) : Prop where
  arm : d.2 < 4
  bar : barD d ∈ D
  wend : WEnd D d L
  len : L = D.length
  fine : fineW D d L
  last : cnt (legsAt D (dart D d L).1) = 1
  first : cnt (legsAt D d.1) = 1
theorem one_odd {k : Knot} (h : cnt (legsAt D k) = 1) : ¬ evn D k := by unfold evn oddL; rw [h]; simp
theorem RunAt.odd0 (h : RunAt D d L) : ¬ evn D d.1 := one_odd h.first
theorem RunAt.ok (h : RunAt D d L) : ∀ t, t < L → (dart D d t).2 < 4 ∧ barD (dart D d t) ∈ D := fun t ht =>
  dart_ok (n := L - 1) h.arm h.bar (fun t h1 h2 => h.wend.even t h1 (by have := h.wend.pos; omega)) t (by omega)
theorem RunAt.nodup (h : RunAt D d L) : (pathB D d L).Nodup := pathB_nodup h.arm h.bar h.odd0 h.wend.even
theorem RunAt.sub (h : RunAt D d L) : ∀ x ∈ pathB D d L, x ∈ D := pathB_sub h.arm h.bar h.wend.even
theorem RunAt.all (h : RunAt D d L) : ∀ x ∈ D, x ∈ pathB D d L := by
  intro b hb
  by_cases hm : b ∈ pathB D d L
  · exact hm
  · exfalso
    have := length_le_of_sub (l := b :: pathB D d L) (D := D) (List.nodup_cons.2 ⟨hm, h.nodup⟩) (fun x hx => by
      rcases List.mem_cons.1 hx with rfl | hx
      · exact hb
      · exact h.sub x hx)
    have hl := h.len
    simp [pathB_len] at this
    omega
theorem RunAt.perm (h : RunAt D d L) (hn : D.Nodup) : (pathB D d L).Perm D := (List.perm_ext_iff_of_nodup h.nodup hn).2 fun x => ⟨h.sub x, h.all x⟩
theorem RunAt.visits (h : RunAt D d L) (hn : D.Nodup) (hs : ∀ b ∈ D, Sided b) {t : Nat} (h0 : 0 < t) (h1 : t < L) : cnt (legsAt D (dart D d t).1) = 2 * vs D d (dart D d t).1 L := by
  have he := h.wend.even t h0 h1
  rw [cnt_sum _ hn hs, ← ((h.perm hn).map _).sum_nat]
  obtain ⟨n, rfl⟩ : ∃ n, L = n + 1 := ⟨L - 1, by omega⟩
  rw [vs_sum n (fun t ht => (h.ok t (by omega)).1)]
  rw [if_neg (fun e => h.odd0 (by rw [e]; exact he)), if_neg (fun e => h.wend.odd (by rw [e]; exact he))]
  rfl
theorem dart_succ (t : Nat) (h : 0 < t) : dart D d t = nxt D (dart D d (t - 1)) := by
  obtain ⟨s, rfl⟩ : ∃ s, t = s + 1 := ⟨t - 1, by omega⟩
  rfl
/-- the arm by which a knot is reached -/
def byA (D : List Bar) (d : Dart) (t : Nat) : Nat := 3 - (dart D d (t - 1)).2
theorem by_onw (t : Nat) (h : 0 < t) : (dart D d t).2 = onw (legsAt D (dart D d t).1) (byA D d t) := by
  rw [dart_succ t h]; rfl
theorem by_bar {t : Nat} (h : 0 < t) (ha : (dart D d (t - 1)).2 < 4) : armB (dart D d t).1 (byA D d t) = barD (dart D d (t - 1)) := by
  rw [dart_succ t h]
  exact armB_rev _ ha
theorem by_knot {t : Nat} (h : 0 < t) (ha : (dart D d (t - 1)).2 < 4) : armK (dart D d t).1 (byA D d t) = (dart D d (t - 1)).1 := by
  rw [dart_succ t h]
  exact armK_rev _ ha
theorem by_four {t : Nat} (h : 0 < t) (h4 : cnt (legsAt D (dart D d t).1) = 4) : (dart D d t).2 = byA D d t ^^^ 1 := by
  rw [by_onw t h, onw_four h4]
/-- a knot with four missing bars is passed by its upper bars first -/
theorem RunAt.high (h : RunAt D d L) {t : Nat} (h0 : 0 < t) (h1 : t < L) (h4 : cnt (legsAt D (dart D d t).1) = 4) (hv : vs D d (dart D d t).1 t = 0) : byA D d t < 2 := by
  obtain ⟨r, r1, r2, r3, r4⟩ := h.fine t h0 h1 h4
  by_cases e : r = t
  · subst e; exact r4
  · exfalso
    have h2 := vs_mono (D := D) (d := d) (k := (dart D d t).1) (n := r + 1) t (by omega)
    have h3 := vs_at (D := D) (d := d) r1
    rw [r3] at h3
    omega
/-- and by its lower bars later -/
theorem RunAt.low (h : RunAt D d L) {t : Nat} (h0 : 0 < t) (h1 : t < L) (h4 : cnt (legsAt D (dart D d t).1) = 4) (hv : 0 < vs D d (dart D d t).1 t) : 2 ≤ byA D d t := by
  obtain ⟨f, f1, f2, f3, f4⟩ := vs_pos t hv
  have hf := h.high f1 (by omega) (by rw [f3]; exact h4) (by rw [f3]; exact f4)
  rcases Nat.lt_or_ge (byA D d t) 2 with hb | hb
  · exfalso
    have bf := by_bar f1 (h.ok (f - 1) (by omega)).1
    have bt := by_bar h0 (h.ok (t - 1) (by omega)).1
    have nf := by_four f1 (by rw [f3]; exact h4)
    rw [f3] at bf
    have hbar : barD (dart D d f) = armB (dart D d t).1 (byA D d f ^^^ 1) := by
      unfold barD; rw [nf, f3]
    have hne : ∀ i j, i < j → j < L → barD (dart D d i) ≠ barD (dart D d j) := fun i j hij hj =>
      bars_ne (n := L - 1) h.arm h.bar h.odd0 (fun t h1 h2 => h.wend.even t h1 (by omega)) hij (by omega)
    by_cases e : byA D d t = byA D d f
    · exact hne (f - 1) (t - 1) (by omega) (by omega) (by rw [← bf, ← bt, e])
    · have e2 : byA D d t = byA D d f ^^^ 1 := by
        rcases (by omega : byA D d f = 0 ∨ byA D d f = 1) with hq | hq <;> rw [hq] at e ⊢ <;> (first | (have : byA D d t = 1 := by omega); rw [this]; rfl | (have : byA D d t = 0 := by omega); rw [this]; rfl)
      by_cases e3 : f = t - 1
      · have hk := by_knot h0 (h.ok (t - 1) (by omega)).1
        rw [← e3, f3] at hk
        exact armK_ne _ (by omega) hk
      · exact hne f (t - 1) (by omega) (by omega) (by rw [hbar, ← bt, e2])
  · exact hb
theorem armK_up {a : Nat} (k : Knot) (h : a < 2) : (armK k a).2 = k.2 + 1 := by
  obtain ⟨x, y⟩ := k
  rcases (by omega : a = 0 ∨ a = 1) with rfl | rfl <;> rfl
theorem armK_down {a : Nat} (k : Knot) (h : 2 ≤ a) (h4 : a < 4) : (armK k a).2 = k.2 - 1 := by
  obtain ⟨x, y⟩ := k
  rcases (by omega : a = 2 ∨ a = 3) with rfl | rfl <;> rfl
/-- the first visit of a knot with four missing bars comes from above and goes there -/
theorem RunAt.highY (h : RunAt D d L) {t : Nat} (h0 : 0 < t) (h1 : t < L) (h4 : cnt (legsAt D (dart D d t).1) = 4) (hv : vs D d (dart D d t).1 t = 0) :
    (dart D d (t - 1)).1.2 = (dart D d t).1.2 + 1 ∧ (dart D d (t + 1)).1.2 = (dart D d t).1.2 + 1 := by
  have hb := h.high h0 h1 h4 hv
  refine ⟨?_, ?_⟩
  · rw [← by_knot h0 (h.ok (t - 1) (by omega)).1]
    exact armK_up _ hb
  · show (armK (dart D d t).1 (dart D d t).2).2 = _
    refine armK_up _ ?_
    rw [by_four h0 h4]
    rcases (by omega : byA D d t = 0 ∨ byA D d t = 1) with hq | hq <;> rw [hq] <;> decide
theorem RunAt.lowY (h : RunAt D d L) {t : Nat} (h0 : 0 < t) (h1 : t < L) (h4 : cnt (legsAt D (dart D d t).1) = 4) (hv : 0 < vs D d (dart D d t).1 t) :
    (dart D d (t - 1)).1.2 = (dart D d t).1.2 - 1 ∧ (dart D d (t + 1)).1.2 = (dart D d t).1.2 - 1 := by
  have hb := h.low h0 h1 h4 hv
  have hb4 : byA D d t < 4 := by unfold byA; omega
  refine ⟨?_, ?_⟩
  · rw [← by_knot h0 (h.ok (t - 1) (by omega)).1]
    exact armK_down _ hb hb4
  · show (armK (dart D d t).1 (dart D d t).2).2 = _
    refine armK_down _ ?_ (h.ok t h1).1
    rw [by_four h0 h4]
    rcases (by omega : byA D d t = 2 ∨ byA D d t = 3) with hq | hq <;> rw [hq] <;> decide
theorem run_at {W : List Knot} (h : runO D = some W) : ∃ k L, W = pathK D (k, arm0 D k) (L + 1) ∧ RunAt D (k, arm0 D k) L := by
  have key : ∀ k, tryRun D k = some W → ∃ k L, W = pathK D (k, arm0 D k) (L + 1) ∧ RunAt D (k, arm0 D k) L := by
    intro k hk
    unfold tryRun at hk
    cases hc : (cnt (legsAt D k) == 1 && isRunP D (walkL D k)) with
    | false => rw [hc] at hk; cases hk
    | true =>
      rw [hc] at hk
      rw [Bool.and_eq_true, beq_iff_eq] at hc
      obtain ⟨h1, h2⟩ := hc
      have ho := one_odd h1
      obtain ⟨ha, hb⟩ := arm0_ok (odd_ne ho)
      obtain ⟨L, hL, _, hw⟩ := walkL_eq ho
      obtain ⟨q1, q2, q3⟩ := (isRun_walk ho hL).1 h2
      obtain rfl : walkL D k = W := by simpa using hk
      exact ⟨k, L, hw, ⟨ha, hb, hL, q3, q1, q2, h1⟩⟩
  unfold runO at h
  split at h
  · split at h
    · rename_i w hw
      cases h
      exact key _ hw
    · exact key _ h
  · cases h
end
end Go.Proofs.YtpompeancmonbaaGreat

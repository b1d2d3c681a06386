/- The parts of a net, plain: program and reference. Conditions: the net is in its order. -/
import Derived.Test.YtpompeancmonbaaGreatE08
import Derived.Test.YtpompeancmonbaaGreatE17
import Derived.Test.YtpompeancmonbaaGreatE23
import Derived.Test.YtpompeancmonbaaGreatE22
import Derived.Test.YtpompeancmonbaaGreatE24
import Derived.Test.YtpompeancmonbaaGreatE26
import Derived.Test.YtpompeancmonbaaGreatE14
import Derived.Test.YtpompeancmonbaaGreatE33
import Derived.Test.YtpompeancmonbaaGreatE28
import Derived.Test.YtpompeancmonbaaGreatE29
namespace Go.Proofs.YtpompeancmonbaaGreat
open Go.RowKit Go.ChangeMaps
set_option maxHeartbeats 4000000
set_option maxRecDepth 100000

/-- two bars have a common end -/
def Tch (a b : Bar) : Prop := lowK a = lowK b ∨ lowK a = uppK b ∨ uppK a = lowK b ∨ uppK a = uppK b
instance (a b : Bar) : Decidable (Tch a b) := inferInstanceAs (Decidable (_ ∨ _))
theorem Tch.symm {a b : Bar} (h : Tch a b) : Tch b a := by
  unfold Tch at *
  rcases h with h | h | h | h
  · exact .inl h.symm
  · exact .inr (.inr (.inl h.symm))
  · exact .inr (.inl h.symm)
  · exact .inr (.inr (.inr h.symm))
theorem tch_ends {a b : Bar} : Tch a b ↔ ∃ n, n < 2 ∧ (lowK b = endK a n ∨ uppK b = endK a n) := by
  constructor
  · rintro (h | h | h | h)
    · exact ⟨0, by omega, .inl h.symm⟩
    · exact ⟨0, by omega, .inr h.symm⟩
    · exact ⟨1, by omega, .inl h.symm⟩
    · exact ⟨1, by omega, .inr h.symm⟩
  · rintro ⟨n, hn, h⟩
    obtain rfl | rfl : n = 0 ∨ n = 1 := by omega
    · rcases h with h | h
      · exact .inl h.symm
      · exact .inr (.inl h.symm)
    · rcases h with h | h
      · exact .inr (.inr (.inl h.symm))
      · exact .inr (.inr (.inr h.symm))
theorem arB_at (k : Knot) (j : Nat) : lowK (arB k j) = k ∨ uppK (arB k j) = k := by
  obtain ⟨x, y⟩ := k
  match j with
  | 0 => right; simp only [arB, uppK, Prod.mk.injEq] <;> omega
  | 1 => right; simp only [arB, uppK, Prod.mk.injEq] <;> omega
  | 2 => left; simp [arB, lowK]
  | _ + 3 => left; simp [arB, lowK]
theorem arB_of {k : Knot} {c : Bar} (hs : Sided c) (h : lowK c = k ∨ uppK c = k) : ∃ j, j < 4 ∧ arB k j = c := by
  obtain ⟨x, y, s⟩ := c
  unfold Sided at hs
  simp only at hs
  rcases h with rfl | rfl
  · obtain rfl | rfl := hs
    · exact ⟨3, by omega, rfl⟩
    · exact ⟨2, by omega, rfl⟩
  · obtain rfl | rfl := hs
    · exact ⟨0, by omega, by simp only [arB, uppK, Prod.mk.injEq, and_true] <;> omega⟩
    · exact ⟨1, by omega, by simp only [arB, uppK, Prod.mk.injEq, and_true] <;> omega⟩
/-- the bars that are connected with a bar, through bars of a list -/
inductive Conn (l : List Bar) (a : Bar) : Bar → Prop
  | refl : Conn l a a
  | step {b c : Bar} : Conn l a b → c ∈ l → Tch b c → Conn l a c
theorem Conn.mem {l : List Bar} {a b : Bar} (h : Conn l a b) (ha : a ∈ l) : b ∈ l := by
  cases h with
  | refl => exact ha
  | step _ h _ => exact h
theorem Conn.trans {l : List Bar} {a b c : Bar} (h : Conn l a b) (h' : Conn l b c) : Conn l a c := by
  induction h' with
  | refl => exact h
  | step _ hm ht ih => exact ih.step hm ht
theorem Conn.symm {l : List Bar} {a b : Bar} (h : Conn l a b) (ha : a ∈ l) : Conn l b a := by
  induction h with
  | refl => exact .refl
  | step hab hm ht ih => exact (Conn.step .refl (hab.mem ha) ht.symm).trans ih
/-- the tried bars: those of l that are not in S are there behind it -/
theorem tryP_got {l S P : List Bar} {b : Bar} (hb : b ∈ l) : b ∈ tryP l S P b ∨ b ∈ S := by
  unfold tryP
  split
  · rename_i h
    rcases h with (h | h) | h
    · exact .inr h
    · exact .inl h
    · exact absurd hb h
  · exact .inl (by simp)
theorem tryP_pre (l S P : List Bar) (b : Bar) : ∃ r, tryP l S P b = P ++ r := by
  unfold tryP
  split
  · exact ⟨[], by simp⟩
  · exact ⟨[b], rfl⟩
theorem tryP_new {l S P : List Bar} {b x : Bar} (h : x ∈ tryP l S P b) : x ∈ P ∨ x = b := by
  unfold tryP at h
  split at h
  · exact .inl h
  · simpa using h
theorem arP_pre (l S : List Bar) (k : Knot) (P : List Bar) : ∀ j, ∃ r, arP l S k P j = P ++ r
  | 0 => ⟨[], by simp [arP]⟩
  | j + 1 => by
    obtain ⟨r, hr⟩ := arP_pre l S k P j
    obtain ⟨r', hr'⟩ := tryP_pre l S (arP l S k P j) (arB k j)
    exact ⟨r ++ r', by rw [arP, hr', hr, List.append_assoc]⟩
theorem arP_got {l S : List Bar} {k : Knot} {P : List Bar} : ∀ {j i : Nat}, i < j → arB k i ∈ l → arB k i ∈ arP l S k P j ∨ arB k i ∈ S
  | j + 1, i, hi, hm => by
    rw [arP]
    by_cases h : i = j
    · subst h; exact tryP_got hm
    · rcases arP_got (j := j) (by omega) hm with h | h
      · obtain ⟨r, hr⟩ := tryP_pre l S (arP l S k P j) (arB k j)
        exact .inl (by rw [hr]; exact List.mem_append_left _ h)
      · exact .inr h
theorem arP_new {l S : List Bar} {k : Knot} {P : List Bar} {x : Bar} : ∀ {j : Nat}, x ∈ arP l S k P j → x ∈ P ∨ ∃ i, x = arB k i
  | 0, h => .inl h
  | j + 1, h => by
    rw [arP] at h
    rcases tryP_new h with h | h
    · exact arP_new h
    · exact .inr ⟨j, h⟩
theorem enP_two (l S : List Bar) (b : Bar) (P : List Bar) : enP l S b P 2 = arP l S (endK b 1) (arP l S (endK b 0) P 4) 4 := rfl
theorem enP_pre (l S : List Bar) (b : Bar) (P : List Bar) : ∃ r, enP l S b P 2 = P ++ r := by
  obtain ⟨r, hr⟩ := arP_pre l S (endK b 0) P 4
  obtain ⟨r', hr'⟩ := arP_pre l S (endK b 1) (arP l S (endK b 0) P 4) 4
  exact ⟨r ++ r', by rw [enP_two, hr', hr, List.append_assoc]⟩
theorem enP_new {l S P : List Bar} {b x : Bar} (h : x ∈ enP l S b P 2) : x ∈ P ∨ Tch b x := by
  rw [enP_two] at h
  have at_ : ∀ n, n < 2 → ∀ i, x = arB (endK b n) i → Tch b x := fun n hn i e => tch_ends.2 ⟨n, hn, by rw [e]; exact arB_at _ i⟩
  rcases arP_new h with h | ⟨i, h⟩
  · rcases arP_new h with h | ⟨i, h⟩
    · exact .inl h
    · exact .inr (at_ 0 (by omega) i h)
  · exact .inr (at_ 1 (by omega) i h)
theorem enP_got {l S P : List Bar} {b c : Bar} (hs : Sided c) (hc : c ∈ l) (ht : Tch b c) : c ∈ enP l S b P 2 ∨ c ∈ S := by
  rw [enP_two]
  obtain ⟨n, hn, h⟩ := tch_ends.1 ht
  obtain ⟨j, hj, rfl⟩ := arB_of hs h
  obtain rfl | rfl : n = 0 ∨ n = 1 := by omega
  · rcases arP_got (S := S) (P := P) hj hc with h | h
    · obtain ⟨r, hr⟩ := arP_pre l S (endK b 1) (arP l S (endK b 0) P 4) 4
      exact .inl (by rw [hr]; exact List.mem_append_left _ h)
    · exact .inr h
  · exact arP_got hj hc
/-! ## a list that is gone through while it grows -/
def colG (ex : Bar → List Bar → List Bar) : Nat → Nat → List Bar → List Bar
  | 0, _, P => P
  | f + 1, i, P => if h : i < P.length then colG ex f (i + 1) (ex P[i] P) else P
theorem colP_eq (l S : List Bar) : ∀ (f i : Nat) (P : List Bar), colP l S f i P = colG (fun p P => enP l S p P 2) f i P
  | 0, _, _ => rfl
  | f + 1, i, P => by
    rw [colP, colG]
    split
    · exact colP_eq l S f (i + 1) _
    · rfl
structure ExOk (l S : List Bar) (ex : Bar → List Bar → List Bar) : Prop where
  ok : ∀ p P, PartOk l S P → PartOk l S (ex p P)
  pre : ∀ p P, ∃ r, ex p P = P ++ r
  new : ∀ p P x, x ∈ ex p P → x ∈ P ∨ Tch p x
  got : ∀ p P c, c ∈ l → Tch p c → c ∈ ex p P ∨ c ∈ S
theorem colG_spec {l S : List Bar} {ex : Bar → List Bar → List Bar} (E : ExOk l S ex) (a : Bar) : ∀ (f i : Nat) (P : List Bar), PartOk l S P → l.length + 1 ≤ f + i → i ≤ P.length → (∀ x ∈ P, Conn l a x) →
    (∀ j (hj : j < P.length), j < i → ∀ c ∈ l, Tch P[j] c → c ∈ P ∨ c ∈ S) →
    PartOk l S (colG ex f i P) ∧ (∀ x ∈ colG ex f i P, Conn l a x) ∧ (∀ p ∈ colG ex f i P, ∀ c ∈ l, Tch p c → c ∈ colG ex f i P ∨ c ∈ S) ∧ (∀ x ∈ P, x ∈ colG ex f i P)
  | 0, i, P, hP, hf, hi, _, _ => by have := hP.len; omega
  | f + 1, i, P, hP, hf, hi, hc, hd => by
    rw [colG]
    split
    · rename_i hlt
      obtain ⟨r, hr⟩ := E.pre P[i] P
      have hok := E.ok P[i] P hP
      have hlen : P.length ≤ (ex P[i] P).length := by rw [hr]; simp
      have hmem : ∀ x ∈ P, x ∈ ex P[i] P := fun x hx => by rw [hr]; exact List.mem_append_left _ hx
      have := colG_spec E a f (i + 1) (ex P[i] P) hok (by omega) (by omega) (fun x hx => by
        rcases E.new _ _ _ hx with h | h
        · exact hc x h
        · exact (hc _ (List.getElem_mem hlt)).step (hok.sub x hx) h) (fun j hj hji c hcl ht => by
        have hjP : j < P.length := by omega
        have he : (ex P[i] P)[j] = P[j] := by simp only [hr]; exact List.getElem_append_left hjP
        rw [he] at ht
        by_cases hjj : j = i
        · subst hjj; exact E.got _ _ c hcl ht
        · rcases hd j hjP (by omega) c hcl ht with h | h
          · exact .inl (hmem c h)
          · exact .inr h)
      exact ⟨this.1, this.2.1, this.2.2.1, fun x hx => this.2.2.2 x (hmem x hx)⟩
    · rename_i hge
      refine ⟨hP, hc, fun p hp c hcl ht => ?_, fun x hx => hx⟩
      obtain ⟨j, hj, rfl⟩ := List.getElem_of_mem hp
      exact hd j hj (by omega) c hcl ht
/-- what is gone through from a bar, where S is a union of whole parts: the bars that are connected with it -/
theorem colG_conn {l S : List Bar} {ex : Bar → List Bar → List Bar} (E : ExOk l S ex) {a : Bar} (ha : a ∈ l) (haS : a ∉ S) (hS : ∀ s ∈ S, ∀ c ∈ l, Tch s c → c ∈ S) :
    (colG ex (l.length + 1) 0 [a]).Nodup ∧ ∀ x, x ∈ colG ex (l.length + 1) 0 [a] ↔ Conn l a x := by
  obtain ⟨h1, h2, h3, h4⟩ := colG_spec E a (l.length + 1) 0 [a] (PartOk.start ha haS) (by omega) (by simp) (fun x hx => by
    obtain rfl : x = a := by simpa using hx
    exact .refl) (fun j hj h => by omega)
  refine ⟨h1.nodup, fun x => ⟨h2 x, fun h => ?_⟩⟩
  induction h with
  | refl => exact h4 a (by simp)
  | step hab hm ht ih =>
    rcases h3 _ ih _ hm ht with h | h
    · exact h
    · exact absurd (hS _ h _ (h1.sub _ ih) ht.symm) (h1.apart _ ih)
theorem enP_ok {l S : List Bar} (hs : ∀ b ∈ l, Sided b) : ExOk l S (fun p P => enP l S p P 2) :=
  ⟨fun p _ h => h.en p 2, fun p P => enP_pre l S p P, fun _ _ _ h => enP_new h, fun _ _ c hc ht => enP_got (hs c hc) hc ht⟩
/-! ## the parts -/
noncomputable instance (l : List Bar) (a x : Bar) : Decidable (Conn l a x) := Classical.propDecidable _
/-- the bars of a net that are connected with a bar -/
noncomputable def compL (l : List Bar) (a : Bar) : List Bar := l.filter fun x => decide (Conn l a x)
theorem compL_mem {l : List Bar} {a x : Bar} (ha : a ∈ l) : x ∈ compL l a ↔ Conn l a x := by
  unfold compL
  rw [List.mem_filter, decide_eq_true_eq]
  exact ⟨fun h => h.2, fun h => ⟨h.mem ha, h⟩⟩
theorem compL_sorted {l : List Bar} (hs : l.Pairwise bltP) (a : Bar) : (compL l a).Pairwise bltP := by unfold compL; exact hs.filter _
noncomputable def prtC (l : List Bar) : Nat → List (List Bar)
  | 0 => []
  | k + 1 => match l[k]? with
    | none => prtC l k
    | some b => if b ∈ (prtC l k).flatten then prtC l k else prtC l k ++ [compL l b]
theorem prtC_succ {l : List Bar} {k : Nat} (hk : k < l.length) : prtC l (k + 1) = if l[k] ∈ (prtC l k).flatten then prtC l k else prtC l k ++ [compL l l[k]] := by
  rw [prtC, List.getElem?_eq_getElem hk]
theorem prtC_flat (l : List Bar) : ∀ (k : Nat), k ≤ l.length → ∀ x, x ∈ (prtC l k).flatten ↔ ∃ j, ∃ hj : j < l.length, j < k ∧ Conn l l[j] x
  | 0, _, x => by simp [prtC]
  | k + 1, hk, x => by
    have ih := prtC_flat l k (by omega)
    rw [prtC_succ (by omega)]
    have hlt : k < l.length := by omega
    split
    · rename_i hm
      rw [ih]
      constructor
      · rintro ⟨j, hj, h1, h2⟩; exact ⟨j, hj, by omega, h2⟩
      · rintro ⟨j, hj, h1, h2⟩
        by_cases hjk : j = k
        · subst hjk
          obtain ⟨i, hi, hik, hc⟩ := (ih _).1 hm
          exact ⟨i, hi, hik, hc.trans h2⟩
        · exact ⟨j, hj, by omega, h2⟩
    · simp only [List.flatten_append, List.mem_append, List.flatten_cons, List.flatten_nil, List.append_nil]
      rw [ih, compL_mem (List.getElem_mem hlt)]
      constructor
      · rintro (⟨j, hj, h1, h2⟩ | h)
        · exact ⟨j, hj, by omega, h2⟩
        · exact ⟨k, hlt, by omega, h⟩
      · rintro ⟨j, hj, h1, h2⟩
        by_cases hjk : j = k
        · subst hjk; exact .inr h2
        · exact .inl ⟨j, hj, by omega, h2⟩
theorem prtC_closed (l : List Bar) {k : Nat} (hk : k ≤ l.length) : ∀ s ∈ (prtC l k).flatten, ∀ c ∈ l, Tch s c → c ∈ (prtC l k).flatten := fun s hs c hc ht => by
  rw [prtC_flat l k hk] at *
  obtain ⟨j, hj, h1, h2⟩ := hs
  exact ⟨j, hj, h1, h2.step hc ht⟩
theorem prtO_prtC {l : List Bar} (hs : l.Pairwise bltP) (hd : ∀ b ∈ l, Sided b) : ∀ (k : Nat), k ≤ l.length → prtO l k = prtC l k
  | 0, _ => rfl
  | k + 1, hk => by
    have ih := prtO_prtC hs hd k (by omega)
    have hlt : k < l.length := by omega
    rw [prtO_succ hlt, prtC_succ hlt, ih]
    by_cases hm : l[k] ∈ (prtC l k).flatten
    · rw [if_pos hm, if_pos hm]
    · rw [if_neg hm, if_neg hm]
      congr 2
      obtain ⟨h1, h2⟩ := colG_conn (enP_ok (S := (prtC l k).flatten) hd) (List.getElem_mem hlt) hm (prtC_closed l (by omega))
      rw [← colP_eq] at h1 h2
      exact sortedB_eq (srtB_sorted h1) (compL_sorted hs _) fun x => by rw [srtB_mem, compL_mem (List.getElem_mem hlt)]; exact h2 x
theorem partsL_eq {l : List Bar} (hs : l.Pairwise bltP) (hd : ∀ b ∈ l, Sided b) : partsL l = prtC l l.length := prtO_prtC hs hd _ (Nat.le_refl _)
/-! ## the parts of the reference -/
def rtry (p : Bar) (P : List Bar) (c : Bar) : List Bar := if Tch p c ∧ c ∉ P then P ++ [c] else P
def rrow (l : List Bar) (p : Bar) (P : List Bar) : List Bar := l.foldl (rtry p) P
def rcol (l : List Bar) (f i : Nat) (P : List Bar) : List Bar := colG (rrow l) f i P
theorem rtry_ok {l S P : List Bar} {p c : Bar} (hS : S = []) (h : PartOk l S P) (hc : c ∈ l) : PartOk l S (rtry p P c) := by
  subst hS
  unfold rtry
  split
  · rename_i hn
    refine ⟨?_, fun x hx => ?_, fun x _ => by simp⟩
    · rw [List.nodup_append]
      exact ⟨h.nodup, by simp, fun a ha b hb e => by
        obtain rfl : b = c := by simpa using hb
        exact hn.2 (e ▸ ha)⟩
    · rcases List.mem_append.1 hx with hx | hx
      · exact h.sub x hx
      · obtain rfl : x = c := by simpa using hx
        exact hc
  · exact h
theorem rrow_spec (l : List Bar) (p : Bar) : ∀ (m P : List Bar), (∀ x ∈ m, x ∈ l) → PartOk l [] P → PartOk l [] (m.foldl (rtry p) P) ∧ (∃ r, m.foldl (rtry p) P = P ++ r) ∧ (∀ x ∈ m.foldl (rtry p) P, x ∈ P ∨ Tch p x) ∧ ∀ c ∈ m, Tch p c → c ∈ m.foldl (rtry p) P
  | [], P, _, hP => ⟨hP, ⟨[], by simp⟩, fun x h => .inl h, fun c h => by simp at h⟩
  | c :: m, P, hm, hP => by
    obtain ⟨h1, ⟨r, hr⟩, h3, h4⟩ := rrow_spec l p m (rtry p P c) (fun x hx => hm x (by simp [hx])) (rtry_ok rfl hP (hm c (by simp)))
    have hpre : ∃ r', rtry p P c = P ++ r' := by
      unfold rtry
      split
      · exact ⟨_, rfl⟩
      · exact ⟨[], by simp⟩
    obtain ⟨r', hr'⟩ := hpre
    refine ⟨h1, ⟨r' ++ r, by rw [List.foldl_cons, hr, hr', List.append_assoc]⟩, fun x hx => ?_, fun x hx ht => ?_⟩
    · rcases h3 x hx with h | h
      · unfold rtry at h
        split at h
        · rename_i hn
          rcases List.mem_append.1 h with h | h
          · exact .inl h
          · obtain rfl : x = c := by simpa using h
            exact .inr hn.1
        · exact .inl h
      · exact .inr h
    · rcases List.mem_cons.1 hx with rfl | hx
      · rw [List.foldl_cons, hr]
        refine List.mem_append_left _ ?_
        unfold rtry
        split
        · simp
        · rename_i hn
          exact Decidable.byContradiction fun h => hn ⟨ht, h⟩
      · exact h4 x hx ht
theorem rrow_pre (l : List Bar) (p : Bar) : ∀ (P : List Bar), ∃ r, rrow l p P = P ++ r := by
  unfold rrow
  induction l with
  | nil => exact fun P => ⟨[], by simp⟩
  | cons c l ih =>
    intro P
    obtain ⟨r, hr⟩ := ih (rtry p P c)
    have hpre : ∃ r', rtry p P c = P ++ r' := by
      unfold rtry
      split
      · exact ⟨_, rfl⟩
      · exact ⟨[], by simp⟩
    obtain ⟨r', hr'⟩ := hpre
    exact ⟨r' ++ r, by rw [List.foldl_cons, hr, hr', List.append_assoc]⟩
theorem rrow_new (p : Bar) : ∀ (l P : List Bar) (x : Bar), x ∈ rrow l p P → x ∈ P ∨ Tch p x
  | [], P, x, h => .inl h
  | c :: l, P, x, h => by
    rcases rrow_new p l (rtry p P c) x h with h | h
    · unfold rtry at h
      split at h
      · rename_i hn
        rcases List.mem_append.1 h with h | h
        · exact .inl h
        · obtain rfl : x = c := by simpa using h
          exact .inr hn.1
      · exact .inl h
    · exact .inr h
theorem rrow_got (p : Bar) : ∀ (l P : List Bar) (c : Bar), c ∈ l → Tch p c → c ∈ rrow l p P
  | a :: l, P, c, hc, ht => by
    rcases List.mem_cons.1 hc with rfl | hc
    · obtain ⟨r, hr⟩ := rrow_pre l p (rtry p P c)
      show c ∈ rrow l p (rtry p P c)
      rw [hr]
      refine List.mem_append_left _ ?_
      unfold rtry
      split
      · simp
      · rename_i hn
        exact Decidable.byContradiction fun h => hn ⟨ht, h⟩
    · exact rrow_got p l (rtry p P a) c hc ht
theorem rrow_ok (l : List Bar) : ExOk l [] (rrow l) :=
  ⟨fun p P h => (rrow_spec l p l P (fun _ h => h) h).1, fun p P => rrow_pre l p P, fun p P x h => rrow_new p l P x h, fun p P c hc ht => .inl (rrow_got p l P c hc ht)⟩
/-- the part of a bar, of the reference -/
def rpart (l : List Bar) (b : Bar) : List Bar := setB (rcol l (l.length + 1) 0 [b])
theorem rpart_eq {l : List Bar} (hs : l.Pairwise bltP) {b : Bar} (hb : b ∈ l) : rpart l b = compL l b := by
  obtain ⟨h1, h2⟩ := colG_conn (rrow_ok l) hb (by simp) (fun s h => by simp at h)
  exact sortedB_eq (setB_sorted _) (compL_sorted hs _) fun x => by unfold rpart rcol; rw [setB_mem, compL_mem hb]; exact h2 x
/-- the parts that the first k bars of a net begin, of the reference -/
def rprt (l : List Bar) : Nat → List (List Bar)
  | 0 => []
  | k + 1 => match l[k]? with
    | none => rprt l k
    | some b => if b ∈ (rprt l k).flatten then rprt l k else rprt l k ++ [rpart l b]
theorem rprt_succ {l : List Bar} {k : Nat} (hk : k < l.length) : rprt l (k + 1) = if l[k] ∈ (rprt l k).flatten then rprt l k else rprt l k ++ [rpart l l[k]] := by
  rw [rprt, List.getElem?_eq_getElem hk]
theorem rprt_prtC {l : List Bar} (hs : l.Pairwise bltP) : ∀ (k : Nat), k ≤ l.length → rprt l k = prtC l k
  | 0, _ => rfl
  | k + 1, hk => by
    have hlt : k < l.length := by omega
    rw [rprt_succ hlt, prtC_succ hlt, rprt_prtC hs k (by omega), rpart_eq hs (List.getElem_mem hlt)]
theorem parts_ref {l : List Bar} (hs : l.Pairwise bltP) (hd : ∀ b ∈ l, Sided b) : partsL l = rprt l l.length := by
  rw [partsL_eq hs hd, rprt_prtC hs _ (Nat.le_refl _)]
end Go.Proofs.YtpompeancmonbaaGreat

/- Bars shifted, of the program, walked. Conditions: bars within bounds. -/
namespace Go.Proofs.YtpompeancmonbaaGreat
open Go.RowKit Go.ChangeMaps
set_option maxHeartbeats 4000000
set_option maxRecDepth 100000

theorem bad_in (x y s : Int) : firstI [reachI x y, reachI (x + s) (y + 1)] = if inBN (x, y, s) then 0 else 3 := by
  rw [reachI_far, reachI_far]
  unfold inBN
  simp only
  cases farB x <;> cases farB y <;> cases farB (x + s) <;> cases farB (y + 1) <;> rfl
def shE (d : Knot) (l : List Bar) : Int := if allIn (l.map (shB d)) then 0 else 3
def shL (d : Knot) (l : List Bar) : List Bar := if allIn (l.map (shB d)) then l.map (shB d) else []
theorem allIn_not {l : List Bar} {f : Bar → Bar} {k : Nat} (hk : k < l.length) (h : inBN (f l[k]) = false) : allIn (l.map f) = false := by
  unfold allIn
  rw [List.all_eq_false]
  exact ⟨f l[k], List.mem_map_of_mem (List.getElem_mem hk), by rw [h]; simp⟩
theorem nshifted_any {v : Value} (l : List Bar) (dx dy : Int) (w : World) (h : SlB w v l) (hk : ∀ b ∈ l, BarOk b) (hlen : l.length ≤ 10000) (hdx : -500000 ≤ dx ∧ dx ≤ 500000) (hdy : -500000 ≤ dy ∧ dy ≤ 500000) :
    Calls Tryz.prog 37 #[v, .agg #[.int .i64 dx, .int .i64 dy]] w (RBE w (shL (dx, dy) l) (shE (dx, dy) l)) := by
  obtain ⟨A, c, rfl, hlc, hcm, h⟩ := h
  have HK := Lib.hid hk
  have hB := Blk.new w 32 #[.int .i64 dx, .int .i64 dy]
  clear hk
  go_enter Tryz.func37, Tryz.ntmps37
  go_wp2
  go_loopw [6, 13] (fun o i wr => ∃ k : Nat, k ≤ l.length ∧ i = .int .i64 k ∧ Hid (allIn ((l.take k).map (shB (dx, dy))) = true) ∧ OwB w.heap.size wr o ((l.take k).map (shB (dx, dy))) ∧ Blk wr w.heap.size 32 #[.int .i64 dx, .int .i64 dy] ∧ Below w.heap.size w wr) (fun _ i _ => l.length - (intOf i).toNat)
  case atStart => exact ⟨0, Nat.zero_le _, rfl, rfl, Own.nil_, hB, by (repeat (first | exact bl_refl | assumption | (apply bl_then; assumption) | refine bl_alloc ?_ _ | refine bl_drew ?_ | refine bl_drewN ?_ _))⟩
  case round =>
    clear hB
    obtain ⟨k, hk, rfl, HQ, hO, hBr, hbw⟩ := hrel
    obtain ⟨wo, rfl⟩ : ∃ x, x = wr := ⟨_, rfl⟩
    by_cases hlt : k < l.length
    · have hr := h.below hbw
      obtain ⟨b, off, rfl, hb, e0, e1, e2⟩ := hr.bar hlt
      have hbo := HK.out _ (List.getElem_mem hlt)
      have HD := Lib.hid (map_take (shB (dx, dy)) hlt)
      have HA := Lib.hid (allIn_take (f := shB (dx, dy)) hlt)
      have HN := Lib.hid (@allIn_not l (shB (dx, dy)) k hlt)
      have fB := hBr.facts
      obtain ⟨⟨x, y, s⟩, hx⟩ : ∃ z, l[k] = z := ⟨_, rfl⟩
      rw [hx] at e0 e1 e2 hbo HD HA HN
      simp only at e0 e1 e2
      clear hx
      obtain ⟨q1, q2, q3⟩ := hbo
      simp only at q1 q2 q3
      have hll : ((l.take k).map (shB (dx, dy))).length ≤ 10000 := by simp; omega
      obtain ⟨x1, hx1⟩ : ∃ x1, x + dx = x1 := ⟨_, rfl⟩
      obtain ⟨y1, hy1⟩ : ∃ y1, y + dy = y1 := ⟨_, rfl⟩
      have m1 : IntKind.i64.wrap (x + dx) = x1 := by rw [IntWalk.i64_in _ (by omega)]; omega
      have m2 : IntKind.i64.wrap (y + dy) = y1 := by rw [IntWalk.i64_in _ (by omega)]; omega
      have r1 : -1000000 ≤ x1 ∧ x1 ≤ 1000000 := by omega
      have r2 : -1000000 ≤ y1 ∧ y1 ≤ 1000000 := by omega
      have HS : Hid (shB (dx, dy) (x, y, s) = (x1, y1, s)) := by unfold Hid shB; rw [← hx1, ← hy1]
      clear hx1 hy1
      rw [HS.out] at HD HA HN
      have hN0 := Blk.new wo 46 #[.int .i64 x, .int .i64 y, .int .i64 s]
      have hBa := hBr.alloc (.cells #[.int .i64 x, .int .i64 y, .int .i64 s] 46)
      have hOa := hO.alloc (.cells #[.int .i64 x, .int .i64 y, .int .i64 s] 46)
      go_upto_region 5 with fail
      obtain ⟨w1, hw1⟩ : ∃ X, wo.alloc (.cells #[.int .i64 x, .int .i64 y, .int .i64 s] 46) = X := ⟨_, rfl⟩
      have hb1 : Below wo.heap.size wo w1 := by rw [← hw1]; exact bl_alloc bl_refl _
      rw [hw1] at hN0 hBa hOa ⊢
      have fN := hN0.facts
      have fBa := hBa.facts
      clear hw1 e0 e1 e2 hr fB hOa
      go_region
      go_upto_region 6 with fail
      obtain ⟨w2, hw2⟩ : ∃ X, ((w1.setCell ⟨wo.heap.size, 0, none⟩ (.int .i64 x1)).setCell ⟨wo.heap.size, 1, none⟩ (.int .i64 y1)).drew = X := ⟨_, rfl⟩
      have hN2 : Blk w2 wo.heap.size 46 #[.int .i64 x1, .int .i64 y1, .int .i64 s] := by
        rw [← hw2]
        exact ((hN0.set_ 0 (.int .i64 x1)).set_ 1 (.int .i64 y1)).drew
      have hb2 : Below wo.heap.size wo w2 := by
        rw [← hw2]
        exact bl_drew (bl_set (bl_set hb1 (Nat.le_refl _) _) (Nat.le_refl _) _)
      have hB2 := hBr.below hb2
      have hO2 := hO.below hb2
      have hbw2 := bl_then hb2 hbw
      have fN2 := hN2.facts
      rw [hw2]
      clear hw2 fN fBa hN0 hBa hb1
      go_wp2_with fail
      refine (nends_any x1 y1 s (by omega) (by omega) (by omega) _).mono ?_
      rintro e w3 ⟨rfl, hb3⟩
      have hN3 := (hN2.below hb3).alloc (.cells #[.int .i64 x1, .int .i64 y1, .int .i64 (x1 + s), .int .i64 (y1 + 1)] 115)
      have hB3 := (hB2.below hb3).alloc (.cells #[.int .i64 x1, .int .i64 y1, .int .i64 (x1 + s), .int .i64 (y1 + 1)] 115)
      have hO3 := (hO2.below hb3).alloc (.cells #[.int .i64 x1, .int .i64 y1, .int .i64 (x1 + s), .int .i64 (y1 + 1)] 115)
      have hE3 := Blk.new w3 115 #[.int .i64 x1, .int .i64 y1, .int .i64 (x1 + s), .int .i64 (y1 + 1)]
      have hbw3 : Below w.heap.size w (w3.alloc (.cells #[.int .i64 x1, .int .i64 y1, .int .i64 (x1 + s), .int .i64 (y1 + 1)] 115)) := by (repeat (first | exact bl_refl | assumption | (apply bl_then; assumption) | refine bl_alloc ?_ _ | refine bl_drew ?_ | refine bl_drewN ?_ _))
      clear fN2 hN2 hB2 hO2 hO hBr
      go_upto_region 7 with fail
      obtain ⟨w4, hw4⟩ : ∃ X, w3.alloc (.cells #[.int .i64 x1, .int .i64 y1, .int .i64 (x1 + s), .int .i64 (y1 + 1)] 115) = X := ⟨_, rfl⟩
      rw [hw4] at hN3 hB3 hO3 hE3 hbw3 ⊢
      have fE3 := hE3.facts
      clear hw4
      have hF : ∀ A c W, Rd ic 1 W A [reachI x1 y1, reachI (x1 + s) (y1 + 1)] → Calls Tryz.prog 34 #[.slice A 2 c] W (RV W (.int .i64 (if inBN (x1, y1, s) then 0 else 3))) := fun A c W hr => by
        rw [← bad_in]
        exact nfirst_any [reachI x1 y1, reachI (x1 + s) (y1 + 1)] A c W (by simp [maxLen]) hr
      refine wp_region_ords [0, 1, 3, 4] [(2, false)] [5, 6, 7, 8] (by kernel_rfl) (by kernel_rfl) (fun d _ _ _ _ h => by cases d <;> exact h) ?_
      simp only [List.map_cons, List.map_nil, List.getD_cons_zero, List.getD_cons_succ]
      repeat (go_big_quiet_step (fail))
      refine wpQuiet_nil ?_
      refine wpMid_run rfl (fun K hK => ?_)
      go_simp
      refine (nreach_any x1 y1 _).mono ?_
      rintro e w5 ⟨rfl, hb5⟩
      refine hK _ _ (by (repeat (first | exact bl_refl | assumption | (apply bl_then; assumption) | refine bl_alloc ?_ _ | refine bl_drew ?_ | refine bl_drewN ?_ _))) ?_
      clear hK K
      have hE3_w5 := hE3.below (show Below _ _ w5 by (repeat (first | exact bl_refl | assumption | (apply bl_then; assumption) | refine bl_alloc ?_ _ | refine bl_drew ?_ | refine bl_drewN ?_ _)))
      have fhE3_w5 := hE3_w5.facts
      refine wpMid_nil ?_
      go_wp2_with fail
      refine (nreach_any (x1 + s) (y1 + 1) _).mono ?_
      rintro e w6 ⟨rfl, hb6⟩
      go_wp2_with fail
      go_must (refine (hF _ _ _ (Rd.ints2 (by simp) (by go_simp) (by go_simp))).mono ?_)
      rintro e w7 ⟨rfl, hb7⟩
      have hb47 : Below w4.heap.size w4 w7 := by (repeat (first | exact bl_refl | assumption | (apply bl_then; assumption) | refine bl_alloc ?_ _ | refine bl_drew ?_ | refine bl_drewN ?_ _))
      have hN7 := hN3.below hb47
      have hB7 := hB3.below hb47
      have hO7 := hO3.below hb47
      have hbw7 := bl_then hb47 hbw3
      have fN7 := hN7.facts
      clear hF fE3
      obtain ⟨q, hq⟩ : ∃ q, inBN (x1, y1, s) = q := ⟨_, rfl⟩
      rw [hq] at HA HN ⊢
      clear hq
      cases q
      · have HL : Hid (shL (dx, dy) l = [] ∧ shE (dx, dy) l = 3) := by
          unfold Hid shL shE
          rw [HN.out rfl]
          exact ⟨rfl, rfl⟩
        simp only [Bool.false_eq_true, if_false]
        go_wp2
        go_ret2
        exact ⟨_, by rw [HL.out.2]; rfl, by rw [HL.out.1]; exact Own.nil_, hbw7⟩
      · simp only [if_true]
        go_wp2_with (at_builtin; refine wpList_appB1 hO7 rfl _ _ rfl rfl rfl (by simp) (by omega) hbw7.size ?_; intro v8 w8 hown8 hgr8)
        have hb8 := own_step hO7 hgr8 (by (repeat (first | exact bl_refl | assumption | (apply bl_then; assumption) | refine bl_alloc ?_ _ | refine bl_drew ?_ | refine bl_drewN ?_ _)))
        have hB8 := (hB7.alloc (.cells #[.int .i64 x1, .int .i64 y1, .int .i64 s] 46)).grown hgr8 (hO7.ne_blk hB7 (by decide))
        clear hgr8
        go_wp2
        go_roundw
        case rel => exact ⟨k + 1, by omega, by go_num, by unfold Hid; rw [HA.out, HQ.out]; rfl, by rw [HD.out]; exact hown8, hB8, hb8⟩
        case measure => simp [intOf]; omega
    · have HE : Hid (l.map (shB (dx, dy)) = (l.take k).map (shB (dx, dy))) := by unfold Hid; rw [List.take_of_length_le (by omega)]
      have HL : Hid (shL (dx, dy) l = (l.take k).map (shB (dx, dy)) ∧ shE (dx, dy) l = 0) := by
        unfold Hid shL shE
        rw [HE.out, if_pos HQ.out, if_pos HQ.out]
        exact ⟨rfl, rfl⟩
      go_wp2
      go_ret2
      exact ⟨_, by rw [HL.out.2]; rfl, by rw [HL.out.1]; exact hO, hbw⟩
end Go.Proofs.YtpompeancmonbaaGreat

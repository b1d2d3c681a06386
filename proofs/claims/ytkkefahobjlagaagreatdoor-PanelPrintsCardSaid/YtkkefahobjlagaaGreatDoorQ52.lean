/- Numbers of the reference and of the program, plain. Conditions: none. -/
import Derived.Test.YtkkefahobjlagaaGreatDoorQ29
import Derived.Lib.AtoiTie
import Derived.Test.YtkkefahobjlagaaGreatDoorQ15
import Derived.Lib.SplitLaws
import Derived.Lib.IndexBytes
import Derived.Lib.IndexMore
import Derived.Test.YtkkefahobjlagaaGreatDoorQ33
import Derived.Test.YtkkefahobjlagaaGreatDoorQ34
import Derived.Test.YtkkefahobjlagaaGreatDoorQ10
import Derived.Lib.ItoaLen
import Derived.Lib.ItoaMem
import Derived.Laws.RangeAny
import Derived.Laws.RangeString
import Derived.Deep.CutRange
namespace Go.Proofs.YtkkefahobjlagaaGreatDoor
open Go.RowKit Go.ChangeMaps
set_option maxHeartbeats 4000000
set_option maxRecDepth 100000
theorem vdig {d : Nat} (h : d < 10) : Lib.digitVal (UInt8.ofNat (48 + d)) = some d := by
 have h1 : (UInt8.ofNat (48 + d)).toNat = 48 + d := by rw [UInt8.toNat_ofNat']; omega
 unfold Lib.digitVal
 rw [h1, if_pos (by omega)]
 congr 1
 omega
theorem vdig_of {b : UInt8} {d : Nat} (h : Lib.digitVal b = some d) : d < 10 ∧ b = UInt8.ofNat (48 + d) := by
 unfold Lib.digitVal at h
 split at h
 ·rename_i h1
  have h2 : b.toNat - 48 = d := by simpa using h
  refine ⟨by omega, ?_⟩
  rw [show 48 + d = b.toNat by omega]
  exact (UInt8.ofNat_toNat (x := b)).symm
 ·cases h
theorem vfrom_app : ∀ (l r : Str) (a : Nat), Lib.decFrom a (l ++ r) = (Lib.decFrom a l).bind fun n => Lib.decFrom n r
 | [], r, a => rfl
 | b :: l, r, a => by
  rw [List.cons_append, Lib.decFrom, Lib.decFrom]
  cases Lib.digitVal b with
  | none => rfl
  | some d => exact vfrom_app l r _
theorem vfrom_dec (u : Nat) : Lib.decFrom 0 (Lib.decDigits u) = some u := by
 induction u using Nat.strongRecOn with
 | ind u ih =>
  rw [Lib.decDigits]
  split
  ·rename_i h
   simp only [Lib.decFrom, vdig h]
   simp
  ·rename_i h
   rw [vfrom_app, ih (u / 10) (by omega), Option.bind_some, Lib.decFrom, vdig (Nat.mod_lt _ (by decide))]
   simp only [Lib.decFrom, Option.some.injEq]
   omega
theorem vdec_ne (u : Nat) : Lib.decDigits u ≠ [] := by
 rw [Lib.decDigits]
 split <;> simp
theorem vdec_head (u : Nat) : 1 < (Lib.decDigits u).length → (Lib.decDigits u).head? ≠ some 48 := by
  induction u using Nat.strongRecOn with
  | ind u ih =>
    intro hl
    rw [Lib.decDigits] at hl ⊢
    split at hl
    · simp at hl
    · rename_i h
      rw [dif_neg h]
      rw [List.head?_append]
      by_cases h1 : u / 10 < 10
      · rw [Lib.decDigits, dif_pos h1]
        simp only [List.head?_cons, Option.some_or, ne_eq, Option.some.injEq]
        intro e
        have h3 : (UInt8.ofNat (48 + u / 10)).toNat = 48 + u / 10 := by rw [UInt8.toNat_ofNat']; omega
        rw [e] at h3
        have : (48 : UInt8).toNat = 48 := rfl
        omega
      · have hn : 1 < (Lib.decDigits (u / 10)).length := by
          rw [Lib.decDigits, dif_neg h1, List.length_append]
          have := List.length_pos_iff.2 (vdec_ne (u / 10 / 10))
          simp
          omega
        have := ih (u / 10) (by omega) hn
        cases hd : (Lib.decDigits (u / 10)).head? with
        | none => rw [List.head?_eq_none_iff] at hd; exact absurd hd (vdec_ne _)
        | some c =>
          rw [hd] at this
          simpa using this
theorem vdec_of : ∀ (n : Nat) (s : Str) (m : Nat), s.length = n → s ≠ [] → s.head? ≠ some 48 → Lib.decFrom 0 s = some m → Lib.decDigits m = s ∧ 1 ≤ m
 | 0, s, m, hn, hs, _, _ => by
  rw [List.length_eq_zero_iff] at hn
  exact absurd hn hs
 | n + 1, s, m, hn, hs, hh, hd => by
  obtain ⟨t, c, rfl⟩ : ∃ t c, s = t ++ [c] := ⟨s.dropLast, s.getLast hs, (List.dropLast_concat_getLast hs).symm⟩
  rw [vfrom_app] at hd
  cases t with
  | nil =>
   have hd : Lib.decFrom 0 [c] = some m := hd
   rw [Lib.decFrom] at hd
   cases hv : Lib.digitVal c with
   | none => rw [hv] at hd; cases hd
   | some d =>
    obtain ⟨hd1, hd2⟩ := vdig_of hv
    rw [hv] at hd
    have hm : d = m := by simpa [Lib.decFrom] using hd
    subst hm
    refine ⟨?_, ?_⟩
    ·rw [Lib.decDigits, dif_pos hd1, ← hd2]
     rfl
    ·by_cases e : d = 0
     ·subst e
      exact absurd (by rw [hd2]; rfl) hh
     ·omega
  | cons b t =>
   cases hf : Lib.decFrom 0 (b :: t) with
   | none => rw [hf] at hd; cases hd
   | some k =>
    rw [hf, Option.bind_some, Lib.decFrom] at hd
    obtain ⟨i1, i2⟩ := vdec_of n (b :: t) k (by simpa using hn) (by simp) (by simpa using hh) hf
    cases hv : Lib.digitVal c with
    | none => rw [hv] at hd; cases hd
    | some d =>
     obtain ⟨hd1, hd2⟩ := vdig_of hv
     rw [hv] at hd
     have hm : k * 10 + d = m := by simpa [Lib.decFrom] using hd
     refine ⟨?_, by omega⟩
     rw [Lib.decDigits, dif_neg (by omega), show m / 10 = k by omega, show m % 10 = d by omega, i1, hd2]
def numG : Str → Int → Int
 | [], n => n
 | c :: r, n => if c.toNat < 48 ∨ 57 < c.toNat then -1 else numG r (10 * n + ((c.toNat : Int) - 48))
def numR (s : Str) : Int := if s.length = 0 ∨ 9 < s.length ∨ (1 < s.length ∧ s.head? = some 48) then -1 else numG s 0
theorem numG_dec : ∀ (s : Str) (a : Nat), numG s (a : Int) = match Lib.decFrom a s with | some m => (m : Int) | none => -1
 | [], a => rfl
 | c :: r, a => by
  rw [numG, Lib.decFrom]
  unfold Lib.digitVal
  by_cases h : 48 ≤ c.toNat ∧ c.toNat ≤ 57
  ·rw [if_neg (by omega), if_pos h]
   have e : (10 * (a : Int) + ((c.toNat : Int) - 48)) = ((a * 10 + (c.toNat - 48) : Nat) : Int) := by omega
   rw [e, numG_dec r]
  ·rw [if_pos (by omega), if_neg h]
theorem num_dec (s : Str) : numR s = if (decR s).2 = true then (decR s).1 else -1 := by
  by_cases hr : (decR s).2 = true
  · rw [if_pos hr]
    unfold decR at hr ⊢
    split at hr
    · rename_i n hn
      simp only [Bool.and_eq_true, decide_eq_true_eq] at hr
      obtain ⟨⟨h1, h2⟩, h3⟩ := hr
      have e : Lib.decDigits n.toNat = s := by
        unfold Lib.itoa at h3
        rw [if_neg (by omega)] at h3
        exact h3
      unfold numR
      have hne := vdec_ne n.toNat
      have hhd := vdec_head n.toNat
      have hfd := vfrom_dec n.toNat
      rw [e] at hne hhd hfd
      have hg := numG_dec s 0
      rw [hfd] at hg
      rw [if_neg]
      · show numG s ((0 : Nat) : Int) = n
        rw [hg]
        show ((n.toNat : Nat) : Int) = n
        omega
      · rintro (h | h | ⟨h, h'⟩)
        · rw [List.length_eq_zero_iff] at h
          exact hne h
        · omega
        · exact hhd h h'
    · cases hr
    · cases hr
  · rw [if_neg hr]
    unfold numR
    by_cases hc : s.length = 0 ∨ 9 < s.length ∨ (1 < s.length ∧ s.head? = some 48)
    · rw [if_pos hc]
    · rw [if_neg hc]
      have hg := numG_dec s 0
      cases hf : Lib.decFrom 0 s with
      | none => rw [hf] at hg; exact hg
      | some m =>
        exfalso
        apply hr
        have hne : s ≠ [] := fun e => hc (.inl (by rw [e]; rfl))
        have e : Lib.decDigits m = s := by
          by_cases h48 : s.head? = some 48
          · have hl : s.length = 1 := by
              have := List.length_pos_iff.2 hne
              have : ¬ 1 < s.length := fun h => hc (.inr (.inr ⟨h, h48⟩))
              omega
            obtain ⟨c, rfl⟩ := List.length_eq_one_iff.1 hl
            have : c = 48 := by simpa using h48
            subst this
            have hm : 0 = m := by simpa [Lib.decFrom, Lib.digitVal] using hf
            subst hm
            rw [Lib.decDigits, dif_pos (by decide)]
            rfl
          · exact (vdec_of _ s m rfl hne h48 hf).1
        have ha : Lib.atoi s = some (m : Int) := by
          cases s with
          | nil => exact absurd rfl hne
          | cons b r =>
            have hb : 48 ≤ b.toNat ∧ b.toNat ≤ 57 := by
              rw [Lib.decFrom] at hf
              unfold Lib.digitVal at hf
              by_cases h : 48 ≤ b.toNat ∧ b.toNat ≤ 57
              · exact h
              · rw [if_neg h] at hf; cases hf
            have h1 : (b == 45) = false := beq_false_of_ne (fun e => by subst e; revert hb; decide)
            have h2 : (b == 43) = false := beq_false_of_ne (fun e => by subst e; revert hb; decide)
            have hd : Lib.decNat (b :: r) = some m := by
              unfold Lib.decNat
              rw [if_neg (by simp), hf]
            rw [Lib.atoi, h1, h2, hd]
            rfl
        have hl : s.length ≤ 9 := by
          have : ¬ 9 < s.length := fun h => hc (.inr (.inl h))
          omega
        have hA : Lib.atoiAll s = .ok (m : Int) := by
          rw [Lib.atoiAll_short _ (by omega), ha]
          rfl
        unfold decR
        rw [hA]
        simp only [Bool.and_eq_true, decide_eq_true_eq]
        refine ⟨⟨hl, by omega⟩, ?_⟩
        unfold Lib.itoa
        rw [if_neg (by omega)]
        exact e
theorem dig_val {d : Nat} (h : d < 10) : Lib.digitVal (UInt8.ofNat (48 + d)) = some d := by
 have h1 : (UInt8.ofNat (48 + d)).toNat = 48 + d := by rw [UInt8.toNat_ofNat']; omega
 unfold Lib.digitVal
 rw [h1, if_pos (by omega)]
 congr 1
 omega
theorem decFrom_app : ∀ (l r : Str) (a n : Nat), Lib.decFrom a l = some n → Lib.decFrom a (l ++ r) = Lib.decFrom n r
 | [], r, a, n, h => by
  obtain rfl : a = n := by simpa [Lib.decFrom] using h
  rfl
 | b :: l, r, a, n, h => by
  rw [Lib.decFrom] at h
  rw [List.cons_append, Lib.decFrom]
  cases hd : Lib.digitVal b with
  | none => rw [hd] at h; cases h
  | some d => rw [hd] at h; exact decFrom_app l r _ n h
theorem decFrom_dec (u : Nat) : Lib.decFrom 0 (Lib.decDigits u) = some u := by
 induction u using Nat.strongRecOn with
 | ind u ih =>
  rw [Lib.decDigits]
  split
  ·rename_i h
   simp only [Lib.decFrom, dig_val h]
   simp
  ·rename_i h
   rw [decFrom_app _ _ _ _ (ih (u / 10) (by omega)), Lib.decFrom, dig_val (Nat.mod_lt _ (by decide))]
   simp only [Lib.decFrom, Option.some.injEq]
   omega
theorem dec_ne (u : Nat) : Lib.decDigits u ≠ [] := by
 intro e
 have h1 := Lib.decDigits_length u
 have h2 := Lib.nDigits_pos u
 rw [e] at h1
 simp at h1
 omega
theorem decNat_dec (u : Nat) : Lib.decNat (Lib.decDigits u) = some u := by
 unfold Lib.decNat
 rw [if_neg (by rw [List.isEmpty_iff]; exact dec_ne u), decFrom_dec]
theorem dec_digit (u : Nat) {c : UInt8} (hc : c ∈ Lib.decDigits u) : 48 ≤ c.toNat ∧ c.toNat ≤ 57 := by
 obtain ⟨k, hk, rfl⟩ := List.getElem_of_mem hc
 obtain ⟨d, hd⟩ := Lib.digit_of_decFrom _ 0 u (decFrom_dec u) k _ (List.getElem?_eq_getElem hk)
 unfold Lib.digitVal at hd
 split at hd
 ·assumption
 ·cases hd
theorem itoa_byte {n : Int} {c : UInt8} (hc : c ∈ Lib.itoa n) : c.toNat = 45 ∨ (48 ≤ c.toNat ∧ c.toNat ≤ 57) := by
 unfold Lib.itoa at hc
 split at hc
 ·rcases List.mem_cons.1 hc with rfl | hc
  ·exact .inl rfl
  ·exact .inr (dec_digit _ hc)
 ·exact .inr (dec_digit _ hc)
theorem itoa_no {n : Int} {c : UInt8} (h : c.toNat ≠ 45 ∧ (c.toNat < 48 ∨ 57 < c.toNat)) : c ∉ Lib.itoa n := fun hc => by
 have := itoa_byte hc
 omega
theorem atoi_itoa (n : Int) : Lib.atoi (Lib.itoa n) = some n := by
 unfold Lib.itoa
 split
 ·rw [Lib.atoi, if_pos (by decide), decNat_dec]
  simp only [Option.map_some, Option.some.injEq]
  omega
 ·cases hd : Lib.decDigits n.toNat with
  | nil => exact absurd hd (dec_ne _)
  | cons b r =>
   have hb := dec_digit n.toNat (c := b) (by rw [hd]; exact List.mem_cons_self)
   have h1 : (b == 45) = false := beq_false_of_ne (fun e => by subst e; revert hb; decide)
   have h2 : (b == 43) = false := beq_false_of_ne (fun e => by subst e; revert hb; decide)
   rw [Lib.atoi, h1, h2, ← hd, decNat_dec]
   simp only [Bool.false_eq_true, if_false, Option.map_some, Option.some.injEq]
   omega
theorem nDigits_le : ∀ (k u : Nat), u < 10 ^ (k + 1) → Lib.nDigits u ≤ k + 1
 | 0, u, h => by rw [Lib.nDigits_small (by simpa using h)]; exact Nat.le_refl _
 | k + 1, u, h => by
  by_cases h1 : u < 10
  ·rw [Lib.nDigits_small h1]; omega
  ·rw [Lib.nDigits_big h1]
   have := nDigits_le k (u / 10) (by rw [Nat.pow_succ] at h; omega)
   omega
theorem itoa_len {n : Int} (h : -999999 ≤ n ∧ n ≤ 999999) : (Lib.itoa n).length ≤ 7 := by
 unfold Lib.itoa
 split
 ·have := nDigits_le 5 n.natAbs (by omega)
  rw [List.length_cons, Lib.decDigits_length]; omega
 ·have := nDigits_le 5 n.toNat (by omega)
  rw [Lib.decDigits_length]; omega
theorem atoiAll_itoa {n : Int} (h : -999999 ≤ n ∧ n ≤ 999999) : Lib.atoiAll (Lib.itoa n) = .ok n := by
 have := itoa_len h
 rw [Lib.atoiAll_short _ (by omega), atoi_itoa]
 rfl
def splS : Str → List Str
 | [] => [[]]
 | c :: r => if c = 32 then [] :: splS r else match splS r with
  | [] => [[c]]
  | w :: ws => (c :: w) :: ws
def joinS : List Str → Str
 | [] => []
 | [w] => w
 | w :: ws => w ++ 32 :: joinS ws
theorem splS_ne : ∀ s : Str, splS s ≠ []
 | [] => by simp [splS]
 | c :: r => by
  rw [splS]
  split
  ·simp
  ·split <;> simp
theorem splS_none : ∀ {s : Str}, 32 ∉ s → splS s = [s]
 | [], _ => rfl
 | c :: r, h => by
  rw [splS, if_neg (fun e => h (by rw [e]; exact List.mem_cons_self)), splS_none fun e => h (List.mem_cons_of_mem _ e)]
theorem splS_app : ∀ {a : Str} (b : Str), 32 ∉ a → splS (a ++ 32 :: b) = a :: splS b
 | [], b, _ => by rw [List.nil_append, splS, if_pos rfl]
 | c :: r, b, h => by
  rw [List.cons_append, splS, if_neg (fun e => h (by rw [e]; exact List.mem_cons_self)), splS_app b fun e => h (List.mem_cons_of_mem _ e)]
theorem splS_join : ∀ {W : List Str}, W ≠ [] → (∀ w ∈ W, 32 ∉ w) → splS (joinS W) = W
 | [], h, _ => absurd rfl h
 | [w], _, h => splS_none (h w List.mem_cons_self)
 | w :: x :: ws, _, h => by
  rw [joinS, splS_app _ (h w List.mem_cons_self), splS_join (by simp) fun z hz => h z (List.mem_cons_of_mem _ hz)]
  simp
theorem join_cons (w : Str) {ws : List Str} (h : ws ≠ []) : joinS (w :: ws) = w ++ 32 :: joinS ws := by
 cases ws with
 | nil => exact absurd rfl h
 | cons x r => rfl
theorem join_splS : ∀ s : Str, joinS (splS s) = s
 | [] => rfl
 | c :: r => by
  have ih := join_splS r
  rw [splS]
  split
  ·rename_i h
   rw [join_cons _ (splS_ne r), ih, h]; rfl
  ·split
   ·rename_i h; exact absurd h (splS_ne r)
   ·rename_i w ws h
    rw [h] at ih
    cases ws with
    | nil => rw [show joinS [w] = w from rfl] at ih; rw [show joinS [c :: w] = c :: w from rfl, ih]
    | cons x q =>
     rw [join_cons _ (by simp)] at ih ⊢
     rw [List.cons_append, ih]
theorem split_ix {l : Str} {c : UInt8} {k : Nat} (h : Lib.indexByte l c = (k : Int)) : l = l.take k ++ c :: l.drop (k + 1) ∧ c ∉ l.take k := by
 induction l generalizing k with
 | nil => simp [Lib.indexByte] at h
 | cons b r ih =>
  rw [Lib.indexByte] at h
  by_cases hb : b = c
  ·subst hb
   rw [if_pos (by simp)] at h
   obtain rfl : k = 0 := by omega
   simp
  ·have hge := Lib.indexByte_ge r c
   rw [if_neg (by simpa using hb)] at h
   split at h
   ·omega
   ·rename_i h1
    have h1' : ¬ Lib.indexByte r c = -1 := by simpa using h1
    obtain ⟨j, hj⟩ : ∃ j : Nat, Lib.indexByte r c = (j : Int) := ⟨(Lib.indexByte r c).toNat, by omega⟩
    obtain rfl : k = j + 1 := by omega
    obtain ⟨e1, e2⟩ := ih hj
    refine ⟨by simpa using e1, ?_⟩
    rw [List.take_succ_cons, List.mem_cons]
    rintro (rfl | h2)
    ·exact hb rfl
    ·exact e2 h2
theorem miss_ix {l : Str} {c : UInt8} (h : Lib.indexByte l c = -1) : c ∉ l := by
 induction l with
 | nil => simp
 | cons b r ih =>
  have hge := Lib.indexByte_ge r c
  rw [Lib.indexByte] at h
  by_cases hb : b = c
  ·rw [if_pos (by simpa using hb)] at h; omega
  ·rw [if_neg (by simpa using hb)] at h
   have h1 : Lib.indexByte r c = -1 := by
    split at h
    ·rename_i h2; simpa using h2
    ·omega
   rw [List.mem_cons]
   rintro (rfl | h2)
   ·exact hb rfl
   ·exact ih h1 h2
theorem splitB_spl : ∀ (k : Nat) (s : Str), s.count 32 ≤ k → (Lib.splitB ⟨#[32]⟩ 0 k ⟨s.toArray⟩).map (fun b => b.data.toList) = splS s
 | 0, s, h => by
  rw [Lib.splitB_zero, splS_none (fun hm => by have := List.count_pos_iff.2 hm; omega)]
  rfl
 | k + 1, s, h => by
  have hix : Lib.indexB ⟨s.toArray⟩ ⟨#[32]⟩ = Lib.indexByte s 32 := Lib.index_one s 32
  have hge := Lib.indexByte_ge s 32
  by_cases h1 : Lib.indexByte s 32 = -1
  ·rw [Lib.splitB_miss _ _ _ _ (by rw [hix, h1]), splS_none (miss_ix h1)]
   rfl
  ·obtain ⟨j, hj⟩ : ∃ j : Nat, Lib.indexByte s 32 = (j : Int) := ⟨(Lib.indexByte s 32).toNat, by omega⟩
   obtain ⟨e1, e2⟩ := split_ix hj
   have e3 : splS s = s.take j :: splS (s.drop (j + 1)) := by
    conv => lhs; rw [e1]
    exact splS_app _ e2
   have hd : (s.drop (j + 1)).count 32 ≤ k := by
    have : s.count 32 = (s.take j).count 32 + ((s.drop (j + 1)).count 32 + 1) := by
     conv => lhs; rw [e1]
     rw [List.count_append, List.count_cons_self]
    omega
   have hx : ({ data := s.toArray } : ByteArray).extract (j + 1) ({ data := s.toArray } : ByteArray).size = ⟨(s.drop (j + 1)).toArray⟩ := by
    rw [ByteArray.extract_mk]
    congr 1
    apply Array.ext'
    simp [ByteArray.size]
    rw [List.take_of_length_le (by simp)]
   have ht : (({ data := s.toArray } : ByteArray).extract 0 j).data.toList = s.take j := by
    rw [ByteArray.extract_mk]
    simp
   rw [Lib.splitB, if_neg (by rw [hix, hj]; simp), hix, hj, Int.toNat_natCast, List.map_cons, Nat.add_zero, ht, show (⟨#[32]⟩ : ByteArray).size = 1 from rfl, hx, splitB_spl k _ hd, e3]
theorem wordsL_spl (s : Str) : wordsL s = splS s := by
 unfold wordsL
 exact splitB_spl _ s (by rw [show Lib.countB ⟨s.toArray⟩ ⟨#[32]⟩ = Lib.count s [32] from rfl, Lib.count_one]; exact Nat.le_refl _)
theorem suf_iff {s : Str} {c : UInt8} : Lib.hasSuffix s [c] = true ↔ ∃ t, s = t ++ [c] := by
 unfold Lib.hasSuffix
 rw [List.isSuffixOf_iff_suffix]
 exact ⟨fun ⟨t, h⟩ => ⟨t, h.symm⟩, fun ⟨t, h⟩ => ⟨t, h.symm⟩⟩
theorem suf_app (t : Str) (c d : UInt8) : Lib.hasSuffix (t ++ [d]) [c] = decide (c = d) := by
 rw [Bool.eq_iff_iff, suf_iff, decide_eq_true_eq]
 constructor
 ·rintro ⟨u, h⟩
  have := List.append_inj_right' h rfl
  simpa using this.symm
 ·rintro rfl; exact ⟨t, rfl⟩
theorem trim_app (t : Str) (c : UInt8) : Lib.trimSuffix (t ++ [c]) [c] = t := by
 unfold Lib.trimSuffix
 rw [if_pos (by rw [suf_app]; simp)]
 simp
theorem take_pred (t : Str) (c : UInt8) : (t ++ [c]).take ((t ++ [c]).length - 1) = t := by simp
theorem lines_app : ∀ {r : Str} (s : Str), 10 ∉ r → linesL (r ++ 10 :: s) = (r ++ [10]) :: linesL s
 | [], s, _ => by rw [List.nil_append, linesL, if_pos rfl]; rfl
 | c :: r, s, h => by
  rw [List.cons_append, linesL, if_neg (fun e => h (by rw [e]; exact List.mem_cons_self)), lines_app s fun e => h (List.mem_cons_of_mem _ e)]
  rfl
theorem lines_one : ∀ {r : Str}, 10 ∉ r → r ≠ [] → linesL r = [r]
 | [], _, h => absurd rfl h
 | c :: r, h, _ => by
  rw [linesL, if_neg (fun e => h (by rw [e]; exact List.mem_cons_self))]
  by_cases hr : r = []
  ·subst hr; rfl
  ·rw [lines_one (fun e => h (List.mem_cons_of_mem _ e)) hr]
def splA (c : UInt8) : Str → List Str
 | [] => [[]]
 | b :: r => if b = c then [] :: splA c r else match splA c r with
  | [] => [[b]]
  | w :: ws => (b :: w) :: ws
theorem splA_32 : ∀ s : Str, splA 32 s = splS s
 | [] => rfl
 | c :: r => by rw [splA, splS, splA_32 r] <;> rfl
theorem splA_none {c : UInt8} : ∀ {s : Str}, c ∉ s → splA c s = [s]
 | [], _ => rfl
 | b :: r, h => by
  rw [splA, if_neg (fun e => h (by rw [e]; exact List.mem_cons_self)), splA_none fun e => h (List.mem_cons_of_mem _ e)]
theorem splA_app {c : UInt8} : ∀ {a : Str} (b : Str), c ∉ a → splA c (a ++ c :: b) = a :: splA c b
 | [], b, _ => by rw [List.nil_append, splA, if_pos rfl]
 | d :: r, b, h => by
  rw [List.cons_append, splA, if_neg (fun e => h (by rw [e]; exact List.mem_cons_self)), splA_app b fun e => h (List.mem_cons_of_mem _ e)]
theorem splA_ne (c : UInt8) : ∀ s : Str, splA c s ≠ []
 | [] => by simp [splA]
 | b :: r => by
  rw [splA]
  split
  ·simp
  ·split <;> simp
def fullB (W : List Str) : Bool := W.all fun w => decide (w ≠ [])
def w0 (W : List Str) : Str := W.getD 0 []
abbrev IsP (W : List Str) (pl : Nat) : Prop := pl = 0 ∧ W.getD 0 [] = wPan ∧ W.length = 3 ∧ fullB W = true ∧ 0 ≤ numR (W.getD 2 [])
abbrev IsE (W : List Str) (pl : Nat) : Prop := (pl = 1 ∧ W.getD 0 [] = wLeft ∨ 0 < pl ∧ W.getD 0 [] = wRight) ∧ W.length = 4 ∧ fullB W = true ∧ 0 ≤ numR (W.getD 2 []) ∧ (W.getD 3 [] = wOut ∨ W.getD 3 [] = wIn)
abbrev IsN (W : List Str) (pl : Nat) : Prop := 0 < pl ∧ W.getD 0 [] = wEnd ∧ W.length = 1
def noP : Pan := ([], 0, [], [])
def lastP (out : List Pan) : Pan := out.getLast?.getD noP
def edgR (W : List Str) : Edg := (W.getD 1 [], numR (W.getD 2 []), W.getD 3 [] == wOut)
def edgeQ (W : List Str) (p : Pan) : Pan := if W.getD 0 [] = wLeft then (p.1, p.2.1, p.2.2.1 ++ [edgR W], p.2.2.2) else (p.1, p.2.1, p.2.2.1, p.2.2.2 ++ [edgR W])
def rfE (W : List Str) (out : List Pan) (pl : Nat) : Int :=
 if IsP W pl then whenI (decide (out.length = 16)) 5 else if IsE W pl then edgE (edgR W) else if IsN W pl then firstI [panE (lastP out), whenI (agnB out.dropLast (lastP out).1) 9] else 25
def rfN (W : List Str) (out : List Pan) (pl : Nat) : List Pan × Nat :=
 if IsP W pl then (out ++ [(W.getD 1 [], numR (W.getD 2 []), [], [])], 1) else if IsE W pl then (out.dropLast ++ [edgeQ W (lastP out)], if W.getD 0 [] = wLeft then pl else 2) else (out, 0)
def rfGo : List Str → List Pan → Nat → Nat → List Pan × Int × Int
 | [], out, _, _ => (out, 0, 0)
 | [x], out, pl, i => if x ≠ [] then ([], (i : Int), 25) else if 0 < pl then ([], (i : Int), 28) else (out, 0, 0)
 | x :: y :: r, out, pl, i => if rfE (splA 32 x) out pl = 0 then rfGo (y :: r) (rfN (splA 32 x) out pl).1 (rfN (splA 32 x) out pl).2 (i + 1) else ([], (i : Int), rfE (splA 32 x) out pl)
def rfR (s : Str) : List Pan × Int × Int := if 16384 < s.length then ([], 0, 26) else rfGo (splA 10 s) [] 0 0
def PRel (l : List Pan) (o : Option Pan) (st : Str) (out : List Pan) (pl : Nat) : Prop :=
 (pl = 0 ∧ (st = [] ∨ st = wEnd) ∧ o = none ∧ out = l) ∨ ∃ p, o = some p ∧ out = l ++ [p] ∧ (pl = 1 ∧ (st = wPan ∨ st = wLeft) ∨ pl = 2 ∧ st = wRight)
theorem dec_nn {s : Str} (h : (decR s).2 = true) : 0 ≤ (decR s).1 := by
 unfold decR at h ⊢
 split at h
 ·simp only [Bool.and_eq_true, decide_eq_true_eq] at h
  exact h.1.2
 ·cases h
 ·cases h
theorem num_some {s : Str} (h : (decR s).2 = true) : numR s = (decR s).1 ∧ 0 ≤ numR s := by
 rw [num_dec, if_pos h]
 exact ⟨rfl, dec_nn h⟩
theorem num_none {s : Str} (h : (decR s).2 = false) : ¬ 0 ≤ numR s := by
 rw [num_dec, if_neg (by rw [h]; decide)]
 decide
theorem num_nil : ¬ 0 ≤ numR [] := by decide
theorem lastP_app (l : List Pan) (p : Pan) : lastP (l ++ [p]) = p := by unfold lastP; simp
theorem rd_head (W : List Str) (hd : W.getD 0 [] = wPan) (h3 : W.length = 3) : fullB W = true ↔ W.getD 1 [] ≠ [] ∧ W.getD 2 [] ≠ [] := by
 match W, h3 with
 | [a, b, c], _ =>
  have hd : a = wPan := hd
  subst hd
  unfold fullB wPan
  simp
theorem rd_edge (W : List Str) (hd : W.getD 0 [] ≠ []) (h3 : W.length = 4) (hw : W.getD 3 [] = wOut ∨ W.getD 3 [] = wIn) : fullB W = true ↔ W.getD 1 [] ≠ [] ∧ W.getD 2 [] ≠ [] := by
 match W, h3 with
 | [a, b, c, d], _ =>
  have hd : a ≠ [] := hd
  have hw : d = wOut ∨ d = wIn := hw
  have h2 : d ≠ [] := by rcases hw with rfl | rfl <;> decide
  unfold fullB
  simp [hd, h2]
abbrev GoodE (W : List Str) : Prop := W.length = 4 ∧ fullB W = true ∧ 0 ≤ numR (W.getD 2 []) ∧ (W.getD 3 [] = wOut ∨ W.getD 3 [] = wIn)
theorem edgW_good {W : List Str} (hd : W.getD 0 [] ≠ []) (h : GoodE W) : edgeE W = edgE (edgR W) ∧ edgW W = edgR W := by
 obtain ⟨h1, h2, h3, h4⟩ := h
 obtain ⟨f1, f2⟩ := (rd_edge W hd h1 h4).1 h2
 have hq : (decR (W.getD 2 [])).2 = true := by
  cases hc : (decR (W.getD 2 [])).2
  ·exact absurd h3 (num_none hc)
  ·rfl
 have e : edgW W = edgR W := by
  unfold edgW edgR
  rw [(num_some hq).1]
 refine ⟨?_, e⟩
 unfold edgeE
 rw [if_neg, e]
 rintro (h | h | ⟨h, h'⟩ | h)
 ·exact h h1
 ·exact f1 h
 ·rcases h4 with h4 | h4
  ·exact h h4
  ·exact h' h4
 ·rw [hq] at h; cases h
theorem edgW_bad {W : List Str} (hd : W.getD 0 [] ≠ []) (h : ¬ GoodE W) : edgeE W = 25 := by
 unfold edgeE
 rw [if_pos]
 refine Classical.byContradiction fun hn => h ?_
 have h1 : W.length = 4 := Classical.byContradiction fun q => hn (.inl q)
 have h2 : W.getD 1 [] ≠ [] := fun q => hn (.inr (.inl q))
 have h3 : W.getD 3 [] = wOut ∨ W.getD 3 [] = wIn := by
  by_cases q : W.getD 3 [] = wOut
  ·exact .inl q
  ·exact .inr (Classical.byContradiction fun q' => hn (.inr (.inr (.inl ⟨q, q'⟩))))
 have h4 : (decR (W.getD 2 [])).2 = true := by
  cases hc : (decR (W.getD 2 [])).2
  ·exact absurd (.inr (.inr (.inr hc))) hn
  ·rfl
 have h5 := num_some h4
 refine ⟨h1, (rd_edge W hd h1 h3).2 ⟨h2, fun q => ?_⟩, h5.2, h3⟩
 rw [q] at h5
 exact num_nil h5.2
theorem beg_good {W : List Str} (l : List Pan) (hd : W.getD 0 [] = wPan) (h1 : W.length = 3) (h2 : fullB W = true) (h3 : 0 ≤ numR (W.getD 2 [])) : begE W l = whenI (decide (l.length = 16)) 5 ∧ begP W = (W.getD 1 [], numR (W.getD 2 []), [], []) := by
 obtain ⟨f1, f2⟩ := (rd_head W hd h1).1 h2
 have hq : (decR (W.getD 2 [])).2 = true := by
  cases hc : (decR (W.getD 2 [])).2
  ·exact absurd h3 (num_none hc)
  ·rfl
 refine ⟨?_, ?_⟩
 ·unfold begE
  rw [if_neg (by rintro (h | h); exact h h1; exact f1 h), hq]
  simp [firstI, whenI]
 ·unfold begP
  rw [(num_some hq).1]
theorem beg_bad {W : List Str} (l : List Pan) (hd : W.getD 0 [] = wPan) (h : ¬ (W.length = 3 ∧ fullB W = true ∧ 0 ≤ numR (W.getD 2 []))) : begE W l = 25 := by
 unfold begE
 by_cases hb : W.length ≠ 3 ∨ W.getD 1 [] = []
 ·rw [if_pos hb]
 ·rw [if_neg hb]
  have h1 : W.length = 3 := Classical.byContradiction fun q => hb (.inl q)
  have h2 : W.getD 1 [] ≠ [] := fun q => hb (.inr q)
  have h4 : (decR (W.getD 2 [])).2 = false := by
   cases hc : (decR (W.getD 2 [])).2
   ·rfl
   ·exfalso
    have h5 := num_some hc
    refine h ⟨h1, (rd_head W hd h1).2 ⟨h2, fun q => ?_⟩, h5.2⟩
    rw [q] at h5
    exact num_nil h5.2
  rw [h4]
  simp [firstI, whenI]
theorem ne_pl : wPan ≠ wLeft ∧ wPan ≠ wRight ∧ wPan ≠ wEnd ∧ wLeft ≠ wRight ∧ wLeft ≠ wEnd ∧ wRight ≠ wEnd ∧ wPan ≠ [] ∧ wLeft ≠ [] ∧ wRight ≠ [] ∧ wEnd ≠ [] := by decide
theorem fol_pan : folL wPan = [[], wEnd] := by unfold folL; rw [if_pos rfl]
theorem fol_left : folL wLeft = [wPan, wLeft] := by decide
theorem fol_right : folL wRight = [wPan, wLeft, wRight] := by decide
theorem fol_end : folL wEnd = [wPan, wLeft, wRight] := by decide
theorem rd_step {W : List Str} {l : List Pan} {o : Option Pan} {st : Str} {out : List Pan} {pl : Nat} (h : PRel l o st out pl) :
    rdE W true l o st = rfE W out pl ∧ (rfE W out pl = 0 → PRel (rdN W l o).1 (rdN W l o).2 (W.getD 0 []) (rfN W out pl).1 (rfN W out pl).2) := by
  obtain ⟨n1, n2, n3, n4, n5, n6, n7, n8, n9, n10⟩ := ne_pl
  by_cases hp : W.getD 0 [] = wPan
  · -- a panel's first line
    have hE : ¬ IsE W pl := by
      rintro ⟨(⟨_, q⟩ | ⟨_, q⟩), _⟩
      · rw [hp] at q; exact n1 q
      · rw [hp] at q; exact n2 q
    have hN : ¬ IsN W pl := by
      rintro ⟨_, q, _⟩
      rw [hp] at q; exact n3 q
    rcases h with ⟨rfl, hst, rfl, rfl⟩ | ⟨p, rfl, rfl, hst⟩
    · have hm : ¬ (true = false ∨ st ∉ folL (W.getD 0 [])) := by
        rw [hp, fol_pan]
        rcases hst with rfl | rfl <;> simp
      have e1 : rdE W true out none st = begE W out := by
        unfold rdE
        rw [if_neg hm, if_pos hp]
      by_cases hg : W.length = 3 ∧ fullB W = true ∧ 0 ≤ numR (W.getD 2 [])
      · have hP : IsP W 0 := ⟨rfl, hp, hg.1, hg.2.1, hg.2.2⟩
        obtain ⟨g1, g2⟩ := beg_good out hp hg.1 hg.2.1 hg.2.2
        refine ⟨?_, fun _ => ?_⟩
        · rw [e1, g1]
          unfold rfE
          rw [if_pos hP]
        · right
          refine ⟨begP W, ?_, ?_, .inl ⟨?_, .inl hp⟩⟩
          · unfold rdN
            rw [if_pos hp]
          · unfold rdN rfN
            rw [if_pos hp, if_pos hP, g2]
          · unfold rfN
            rw [if_pos hP]
      · have hP : ¬ IsP W 0 := fun q => hg ⟨q.2.2.1, q.2.2.2.1, q.2.2.2.2⟩
        have e2 : rfE W out 0 = 25 := by
          unfold rfE
          rw [if_neg hP, if_neg hE, if_neg hN]
        rw [e1, beg_bad out hp hg, e2]
        exact ⟨rfl, fun q => absurd q (by decide)⟩
    · have hP : ¬ IsP W pl := fun q => by have := q.1; omega
      have e2 : rfE W (l ++ [p]) pl = 25 := by
        unfold rfE
        rw [if_neg hP, if_neg hE, if_neg hN]
      have e1 : rdE W true l (some p) st = 25 := by
        unfold rdE
        rw [if_pos]
        right
        rw [hp, fol_pan]
        rcases hst with ⟨_, rfl | rfl⟩ | ⟨_, rfl⟩ <;> decide
      rw [e1, e2]
      exact ⟨rfl, fun q => absurd q (by decide)⟩
  · have hP : ¬ IsP W pl := fun q => hp q.2.1
    rcases h with ⟨rfl, hst, rfl, rfl⟩ | ⟨p, rfl, rfl, hst⟩
    · have e2 : rfE W out 0 = 25 := by
        unfold rfE
        rw [if_neg hP, if_neg, if_neg]
        · rintro ⟨q, _⟩; omega
        · rintro ⟨(⟨q, _⟩ | ⟨q, _⟩), _⟩ <;> omega
      have e1 : rdE W true out none st = 25 := by
        unfold rdE
        split
        · rfl
        · first
          | rfl
          | (rw [if_neg hp]; rfl)
      rw [e1, e2]
      exact ⟨rfl, fun q => absurd q (by decide)⟩
    · have hl : lastP (l ++ [p]) = p := lastP_app l p
      have hdl : (l ++ [p]).dropLast = l := by simp
      by_cases he : W.getD 0 [] = wEnd
      · have hE : ¬ IsE W pl := by
          rintro ⟨(⟨_, q⟩ | ⟨_, q⟩), _⟩
          · rw [he] at q; exact n5 q.symm
          · rw [he] at q; exact n6 q.symm
        have hm : ¬ (true = false ∨ st ∉ folL (W.getD 0 [])) := by
          rw [he, fol_end]
          rcases hst with ⟨_, rfl | rfl⟩ | ⟨_, rfl⟩ <;> decide
        have e1 : rdE W true l (some p) st = finE W l p := by
          unfold rdE
          rw [if_neg hm, if_neg hp]
          show (if W.getD 0 [] = wEnd then finE W l p else edgeE W) = _
          rw [if_pos he]
        by_cases h1 : W.length = 1
        · have hN : IsN W pl := ⟨by omega, he, h1⟩
          refine ⟨?_, fun _ => ?_⟩
          · rw [e1]
            unfold rfE finE
            rw [if_neg hP, if_neg hE, if_pos hN, if_neg (by omega), hl, hdl]
          · left
            have e3 : rfN W (l ++ [p]) pl = (l ++ [p], 0) := by
              unfold rfN
              rw [if_neg hP, if_neg hE]
            have e4 : rdN W l (some p) = (l ++ [p], none) := by
              unfold rdN
              rw [if_neg hp]
              show (if W.getD 0 [] = wEnd then (l ++ [p], none) else (l, some (edgeP W p))) = _
              rw [if_pos he]
            rw [e3, e4]
            exact ⟨rfl, .inr he, rfl, rfl⟩
        · have hN : ¬ IsN W pl := fun q => h1 q.2.2
          have e2 : rfE W (l ++ [p]) pl = 25 := by
            unfold rfE
            rw [if_neg hP, if_neg hE, if_neg hN]
          have e3 : finE W l p = 25 := by
            unfold finE
            rw [if_pos h1]
          rw [e1, e2, e3]
          exact ⟨rfl, fun q => absurd q (by decide)⟩
      · have hN : ¬ IsN W pl := fun q => he q.2.1
        by_cases hx : pl = 1 ∧ W.getD 0 [] = wLeft ∨ 0 < pl ∧ W.getD 0 [] = wRight
        · have hd : W.getD 0 [] ≠ [] := by
            rcases hx with ⟨_, q⟩ | ⟨_, q⟩ <;> rw [q] <;> assumption
          have hm : ¬ (true = false ∨ st ∉ folL (W.getD 0 [])) := by
            rcases hx with ⟨q1, q⟩ | ⟨_, q⟩
            · rw [q, fol_left]
              rcases hst with ⟨_, rfl | rfl⟩ | ⟨q2, rfl⟩
              · decide
              · decide
              · omega
            · rw [q, fol_right]
              rcases hst with ⟨_, rfl | rfl⟩ | ⟨_, rfl⟩ <;> decide
          have e1 : rdE W true l (some p) st = edgeE W := by
            unfold rdE
            rw [if_neg hm, if_neg hp]
            show (if W.getD 0 [] = wEnd then finE W l p else edgeE W) = _
            rw [if_neg he]
          by_cases hg : GoodE W
          · obtain ⟨g1, g2⟩ := edgW_good hd hg
            have hE : IsE W pl := ⟨hx, hg⟩
            refine ⟨?_, fun _ => ?_⟩
            · rw [e1, g1]
              unfold rfE
              rw [if_neg hP, if_pos hE]
            · right
              have e3 : rfN W (l ++ [p]) pl = (l ++ [edgeQ W p], if W.getD 0 [] = wLeft then pl else 2) := by
                unfold rfN
                rw [if_neg hP, if_pos hE, hdl, hl]
              have e4 : rdN W l (some p) = (l, some (edgeP W p)) := by
                unfold rdN
                rw [if_neg hp]
                show (if W.getD 0 [] = wEnd then (l ++ [p], none) else (l, some (edgeP W p))) = _
                rw [if_neg he]
              have e5 : edgeP W p = edgeQ W p := by
                unfold edgeP edgeQ
                rw [g2]
              rw [e3, e4, e5]
              refine ⟨_, rfl, rfl, ?_⟩
              rcases hx with ⟨q1, q⟩ | ⟨_, q⟩
              · left
                exact ⟨by show (if _ then pl else 2) = 1; rw [if_pos q, q1], .inr q⟩
              · right
                exact ⟨by show (if _ then pl else 2) = 2; rw [if_neg (by rw [q]; exact n4.symm)], q⟩
          · have hE : ¬ IsE W pl := fun q => hg q.2
            have e2 : rfE W (l ++ [p]) pl = 25 := by
              unfold rfE
              rw [if_neg hP, if_neg hE, if_neg hN]
            rw [e1, e2, edgW_bad hd hg]
            exact ⟨rfl, fun q => absurd q (by decide)⟩
        · have hE : ¬ IsE W pl := fun q => hx q.1
          have e2 : rfE W (l ++ [p]) pl = 25 := by
            unfold rfE
            rw [if_neg hP, if_neg hE, if_neg hN]
          have e1 : rdE W true l (some p) st = 25 := by
            unfold rdE
            rw [if_pos]
            right
            unfold folL
            rw [if_neg hp]
            by_cases q1 : W.getD 0 [] = wLeft
            · rw [if_pos q1]
              rcases hst with ⟨q2, _⟩ | ⟨_, rfl⟩
              · exact absurd (.inl ⟨q2, q1⟩) hx
              · decide
            · rw [if_neg q1]
              by_cases q2 : W.getD 0 [] = wRight
              · exact absurd (.inr ⟨by omega, q2⟩) hx
              · rw [if_neg q2, if_neg he]
                simp
          rw [e1, e2]
          exact ⟨rfl, fun q => absurd q (by decide)⟩
theorem rd_line {x : Str} (l : List Pan) (o : Option Pan) (st : Str) : readE (x ++ [10]) l o st = rdE (splA 32 x) true l o st ∧ readN (x ++ [10]) l o = rdN (splA 32 x) l o ∧ (readW (x ++ [10])).getD 0 [] = (splA 32 x).getD 0 [] := by
 have e : readW (x ++ [10]) = splA 32 x := by
  unfold readW
  rw [trim_app, wordsL_spl, splA_32]
 unfold readE readN
 rw [e, suf_app]
 exact ⟨rfl, rfl, rfl⟩
theorem rd_all : ∀ (n : Nat) (s : Str) (l : List Pan) (o : Option Pan) (st : Str) (out : List Pan) (pl i : Nat), s.length ≤ n → PRel l o st out pl → rfGo (splA 10 s) out pl i = parP (linesL s) l o st i
  | n, s, l, o, st, out, pl, i, hn, hr => by
    by_cases hm : 10 ∈ s
    · obtain ⟨a, b, rfl, ha⟩ := List.append_of_mem hm |> fun _ => (List.mem_iff_append.1 hm |> fun _ => by
        have := List.eq_append_cons_of_mem hm
        exact this)
      rw [splA_app _ ha, lines_app _ ha]
      obtain ⟨y, r, hy⟩ : ∃ y r, splA 10 b = y :: r := by
        cases hb : splA 10 b with
        | nil => exact absurd hb (splA_ne 10 b)
        | cons y r => exact ⟨y, r, rfl⟩
      obtain ⟨e1, e2, e3⟩ := rd_line (x := a) l o st
      obtain ⟨s1, s2⟩ := rd_step (W := splA 32 a) hr
      rw [hy, rfGo, parP, e1, e2, e3, s1]
      by_cases h0 : rfE (splA 32 a) out pl = 0
      · rw [if_pos h0, if_pos h0, ← hy]
        cases n with
        | zero => simp at hn
        | succ n => exact rd_all n b _ _ _ _ _ _ (by simp at hn; omega) (s2 h0)
      · rw [if_neg h0, if_neg h0]
    · rw [splA_none hm]
      by_cases hs : s = []
      · subst hs
        rw [rfGo, if_neg (by simp)]
        show _ = (if st ≠ [] ∧ st ≠ wEnd then ([], (i : Int), 28) else (l, 0, 0))
        rcases hr with ⟨rfl, hst, rfl, rfl⟩ | ⟨p, rfl, rfl, hst⟩
        · rw [if_neg (by omega), if_neg]
          rintro ⟨q1, q2⟩
          rcases hst with h | h
          · exact q1 h
          · exact q2 h
        · rw [if_pos (by omega), if_pos]
          rcases hst with ⟨_, rfl | rfl⟩ | ⟨_, rfl⟩ <;> decide
      · rw [rfGo, if_pos hs, lines_one hm hs, parP]
        have h25 : readE s l o st = 25 := by
          unfold readE rdE
          rw [if_pos]
          left
          cases hq : Lib.hasSuffix s [10] with
          | false => rfl
          | true =>
            obtain ⟨t, rfl⟩ := suf_iff.1 hq
            exact absurd (by simp) hm
        rw [h25, if_neg (by decide)]
theorem rf_par (s : Str) : rfR s = parR s := by
 unfold rfR parR
 split
 ·rfl
 ·exact rd_all s.length s [] none [] [] 0 0 (Nat.le_refl _) (.inl ⟨rfl, .inl rfl, rfl, rfl⟩)
end Go.Proofs.YtkkefahobjlagaaGreatDoor
namespace Go.Proofs.YtkkefahobjlagaaGreatDoor
open Go.RowKit Go.ChangeMaps
set_option maxHeartbeats 4000000
set_option maxRecDepth 100000
attribute [local go_sem] Oper.semAt_some
theorem rtext_any (u : Nat) : ∀ (_ : u ≤ 1000000) (w : World), Calls Tryz.prog 104 #[.int .i64 u] w (RV w (sV (Lib.decDigits u))) := by
 induction u using Nat.strongRecOn with
 | ind u ih =>
  intro hu w
  by_cases h : u < 10
  ·have HD : Hid (Lib.decDigits u = [UInt8.ofNat (48 + u)]) := by unfold Hid; rw [Lib.decDigits, dif_pos h]
   clear ih hu
   unfold sV
   have h10 : u = 0 ∨ u = 1 ∨ u = 2 ∨ u = 3 ∨ u = 4 ∨ u = 5 ∨ u = 6 ∨ u = 7 ∨ u = 8 ∨ u = 9 := by omega
   clear h
   rcases h10 with rfl | rfl | rfl | rfl | rfl | rfl | rfl | rfl | rfl | rfl
   all_goals
    go_enter Tryz.func104, Tryz.ntmps104
    go_wp2
    go_ret
    exact ⟨by rw [HD.out]; rfl, by (repeat first|exact J0|assumption|(apply J1;assumption)|apply J2|apply J3|apply J4)⟩
  ·have c1 := fun W => ih (u / 10) (by omega) (by omega) W
   have c2 := fun W => ih (u % 10) (by omega) (by omega) W
   rw [show ((u / 10 : Nat) : Int) = (u : Int).tdiv 10 by rw [Int.tdiv_eq_ediv_of_nonneg (by omega)]; omega] at c1
   rw [show ((u % 10 : Nat) : Int) = (u : Int).tmod 10 by rw [Int.tmod_eq_emod_of_nonneg (by omega)]; omega] at c2
   have HD : Hid (Lib.decDigits u = Lib.decDigits (u / 10) ++ Lib.decDigits (u % 10)) := by
    unfold Hid
    have e : Lib.decDigits (u % 10) = [UInt8.ofNat (48 + u % 10)] := by rw [Lib.decDigits, dif_pos (Nat.mod_lt _ (by decide))]
    rw [e]
    conv => lhs; rw [Lib.decDigits, dif_neg h]
   have t1 : ((u : Int) < -9) = False := eq_false (by omega)
   have t2 : ((u : Int) < 0) = False := eq_false (by omega)
   have t3 : ((u : Int) < 10) = False := eq_false (by omega)
   have lA : (Lib.decDigits (u / 10)).length ≤ 21 := by rw [← Lib.itoa_nonneg]; exact Lib.itoa_length_le _ (by omega) (by omega)
   have lB : (Lib.decDigits (u % 10)).length ≤ 21 := by rw [← Lib.itoa_nonneg]; exact Lib.itoa_length_le _ (by omega) (by omega)
   obtain ⟨A, hA⟩ : ∃ A, Lib.decDigits (u / 10) = A := ⟨_, rfl⟩
   obtain ⟨B, hB⟩ : ∃ B, Lib.decDigits (u % 10) = B := ⟨_, rfl⟩
   rw [hA] at c1 HD lA
   rw [hB] at c2 HD lB
   clear ih hA hB h
   unfold sV at c1 c2 ⊢
   go_enter Tryz.func104, Tryz.ntmps104
   go_wp2_with fail
   refine (c1 _).mono ?_
   rintro e w1 ⟨rfl, hb1⟩
   go_wp2_with fail
   refine (c2 _).mono ?_
   rintro e w2 ⟨rfl, hb2⟩
   go_wp2
   go_ret
   have eAB : ({ data := A.toArray } : ByteArray) ++ { data := B.toArray } = { data := (A ++ B).toArray } := ByteArray.ext (by simp)
   exact ⟨by rw [HD.out, ← eAB]; rfl, by (repeat first|exact J0|assumption|(apply J1;assumption)|apply J2|apply J3|apply J4)⟩
theorem numG_drop {s : Str} {k : Nat} (h : k < s.length) (m : Int) : numG (s.drop k) m = if s[k].toNat < 48 ∨ 57 < s[k].toNat then -1 else numG (s.drop (k + 1)) (10 * m + ((s[k].toNat : Int) - 48)) := by
 rw [List.drop_eq_getElem_cons h]; rfl
theorem rnum_any (s : Str) (hs : s.length ≤ 100000) (w : World) : Calls Tryz.prog 108 #[sV s] w (RV w (.int .i64 (numR s))) := by
  by_cases h0 : s.length = 0
  · have HS : Hid (numR s = -1) := by unfold Hid numR; rw [if_pos (.inl h0)]
    have e : s = [] := List.eq_nil_of_length_eq_zero h0
    subst e
    unfold sV
    clear h0 hs
    go_enter Tryz.func108, Tryz.ntmps108
    go_wp2
    go_ret
    exact ⟨by rw [HS.out]; rfl, by (repeat first|exact J0|assumption|(apply J1;assumption)|apply J2|apply J3|apply J4)⟩
  by_cases h9 : 9 < s.length
  · have HS : Hid (numR s = -1) := by unfold Hid numR; rw [if_pos (.inr (.inl h9))]
    have t1 : ((s.length : Int) == 0) = false := beq_false_of_ne (by omega)
    have t2 : (9 < (s.length : Int)) = True := eq_true (by omega)
    unfold sV
    clear h0 h9
    go_enter Tryz.func108, Tryz.ntmps108
    go_wp2
    go_ret
    exact ⟨by rw [HS.out]; rfl, by (repeat first|exact J0|assumption|(apply J1;assumption)|apply J2|apply J3|apply J4)⟩
  have hlt0 : 0 < s.length := by omega
  obtain ⟨n0, hn0⟩ : ∃ n : Nat, s[0].toNat = n := ⟨_, rfl⟩
  have hn02 : (({ data := s.toArray } : ByteArray)[0]'hlt0).toNat = n0 := hn0
  have hn0b : n0 < 256 := by rw [← hn0]; exact UInt8.toNat_lt _
  have hhd : s.head? = some 48 ↔ n0 = 48 := by
    rw [List.head?_eq_getElem?, List.getElem?_eq_getElem hlt0, Option.some.injEq, ← hn0]
    exact ⟨fun q => by rw [q]; rfl, fun q => UInt8.toNat_inj.1 (by rw [q]; rfl)⟩
  have t1 : ((s.length : Int) == 0) = false := beq_false_of_ne (by omega)
  have t2 : (9 < (s.length : Int)) = False := eq_false (by omega)
  have HL := Lib.hid h9
  have HH := Lib.hid hhd
  have H0 := Lib.hid h0
  clear hn0 h0 h9 hhd
  unfold sV
  go_enter Tryz.func108, Tryz.ntmps108
  go_upto_region 1 with fail
  go_cut [22] from 5 to 22 (fun s22 wx => s22 = .bool (decide (1 < s.length ∧ n0 = 48)) ∧ Below w.heap.size w wx)
  case first =>
    by_cases h1 : 1 < s.length
    · have t3 : (1 < (s.length : Int)) = True := eq_true (by omega)
      have H1 := Lib.hid h1
      clear h1
      go_wp2_with fail
      all_goals
        go_meet
        case rel => exact ⟨by congr 1; rw [Bool.eq_iff_iff]; have := H1.out; simp; omega, by (repeat first|exact J0|assumption|(apply J1;assumption)|apply J2|apply J3|apply J4)⟩
    · have t3 : (1 < (s.length : Int)) = False := eq_false (by omega)
      have H1 := Lib.hid h1
      clear h1
      go_wp2_with fail
      all_goals
        go_meet
        case rel => exact ⟨by congr 1; rw [Bool.eq_iff_iff]; have := H1.out; simp; omega, by (repeat first|exact J0|assumption|(apply J1;assumption)|apply J2|apply J3|apply J4)⟩
  case rest =>
    obtain ⟨rfl, hbc⟩ := hcut
    by_cases h1 : 1 < s.length ∧ n0 = 48
    · have HS : Hid (numR s = -1) := by unfold Hid numR; rw [if_pos (.inr (.inr ⟨h1.1, HH.out.2 h1.2⟩))]
      rw [decide_eq_true h1]
      clear h1
      go_wp2
      go_ret
      exact ⟨by rw [HS.out]; rfl, hbc⟩
    · have HS : Hid (numR s = numG s 0) := by
        unfold Hid numR
        rw [if_neg]
        rintro (q | q | ⟨q, q'⟩)
        · exact H0.out q
        · exact HL.out q
        · exact h1 ⟨q, HH.out.1 q'⟩
      rw [decide_eq_false h1]
      clear h1 hn02 hn0b
      have hl9 : s.length ≤ 9 := by have := HL.out; omega
      have HL9 := Lib.hid hl9
      clear hl9
      go_wp2
      go_loopw [3, 4] (fun n i wr => ∃ (k : Nat) (m : Int), k ≤ s.length ∧ n = .int .i64 m ∧ i = .int .i64 k ∧ (0 ≤ m ∧ m < 10 ^ k) ∧ Hid (numG s 0 = numG (s.drop k) m) ∧ Below w.heap.size w wr) (fun _ i _ => s.length - (intOf i).toNat)
      case atStart => exact ⟨0, 0, Nat.zero_le _, rfl, rfl, by decide, rfl, hbc⟩
      case round =>
        obtain ⟨k, m, hk, rfl, rfl, hm, H, hbw⟩ := hrel
        by_cases hlt : k < s.length
        · have HD := Lib.hid (numG_drop hlt m)
          obtain ⟨n, hn⟩ : ∃ n : Nat, s[k].toNat = n := ⟨_, rfl⟩
          have hn2 : (({ data := s.toArray } : ByteArray)[k]'hlt).toNat = n := hn
          have hnb : n < 256 := by rw [← hn]; exact UInt8.toNat_lt _
          rw [hn] at HD
          clear hn
          have hp : (10 : Int) ^ k ≤ 100000000 := by
            have h8 : k ≤ 8 := by have := HL9.out; omega
            have := Nat.pow_le_pow_right (n := 10) (by decide) h8
            have e : ((10 ^ k : Nat) : Int) = (10 : Int) ^ k := by push_cast; rfl
            rw [← e]
            omega
          have hm2 : 0 ≤ m ∧ m < 100000000 := by omega
          have HM := Lib.hid hm
          clear hm hp
          by_cases hlo : n < 48
          · have t5 : ((n : Int) < 48) = True := eq_true (by omega)
            have HF : Hid (numG s 0 = -1) := by unfold Hid; rw [H.out, HD.out, if_pos (.inl hlo)]
            clear hlo
            go_wp2
            go_ret
            exact ⟨by rw [HS.out, HF.out]; rfl, hbw⟩
          · have t5 : ((n : Int) < 48) = False := eq_false (by omega)
            by_cases hhi : 57 < n
            · have t6 : (57 < (n : Int)) = True := eq_true (by omega)
              have HF : Hid (numG s 0 = -1) := by unfold Hid; rw [H.out, HD.out, if_pos (.inr hhi)]
              clear hlo hhi
              go_wp2
              go_ret
              exact ⟨by rw [HS.out, HF.out]; rfl, hbw⟩
            · have t6 : (57 < (n : Int)) = False := eq_false (by omega)
              have HT : Hid (numG s 0 = numG (s.drop (k + 1)) (10 * m + ((n : Int) - 48))) := by unfold Hid; rw [H.out, HD.out, if_neg (by omega)]
              go_wp2
              go_roundw
              case rel => exact ⟨k + 1, 10 * m + ((n : Int) - 48), by omega, by go_num, by go_num, by have := HM.out; rw [Int.pow_succ]; omega, HT, hbw⟩
              case measure => simp [intOf]; omega
        · have HE : Hid (numG s 0 = m) := by unfold Hid; rw [H.out, List.drop_of_length_le (by omega)]; rfl
          go_wp2
          go_ret
          exact ⟨by rw [HS.out, HE.out]; rfl, hbw⟩
end Go.Proofs.YtkkefahobjlagaaGreatDoor

/- Numbers, words and lines of strings, plain. Conditions: none. -/
import Derived.Test.YtkmjcoofkgpanaaGreatDoorB21
import Derived.Test.YtkmjcoofkgpanaaGreatDoorB19
import Derived.Lib.AtoiTie
import Derived.Lib.SplitLaws
import Derived.Lib.IndexBytes
import Derived.Lib.IndexMore
namespace Go.Proofs.YtkmjcoofkgpanaaGreatDoor
open Go.RowKit Go.ChangeMaps
set_option maxHeartbeats 4000000
set_option maxRecDepth 100000

/-! ## numbers as strings -/
theorem dig_val {d : Nat} (h : d < 10) : Lib.digitVal (UInt8.ofNat (48 + d)) = some d := by
  have h1 : (UInt8.ofNat (48 + d)).toNat = 48 + d := by rw [UInt8.toNat_ofNat']; omega
  unfold Lib.digitVal
  rw [h1, if_pos (by omega)]
  congr 1
  omega
theorem decFrom_app : ∀ (l r : Str) (a n : Nat), Lib.decFrom a l = some n → Lib.decFrom a (l ++ r) = Lib.decFrom n r
  | [], r, a, n, h => by
    obtain rfl : a = n := by simpa [Lib.decFrom] using h
    rfl
  | b :: l, r, a, n, h => by
    rw [Lib.decFrom] at h
    rw [List.cons_append, Lib.decFrom]
    cases hd : Lib.digitVal b with
    | none => rw [hd] at h; cases h
    | some d => rw [hd] at h; exact decFrom_app l r _ n h
theorem decFrom_dec (u : Nat) : Lib.decFrom 0 (Lib.decDigits u) = some u := by
  induction u using Nat.strongRecOn with
  | ind u ih =>
    rw [Lib.decDigits]
    split
    · rename_i h
      simp only [Lib.decFrom, dig_val h]
      simp
    · rename_i h
      rw [decFrom_app _ _ _ _ (ih (u / 10) (by omega)), Lib.decFrom, dig_val (Nat.mod_lt _ (by decide))]
      simp only [Lib.decFrom, Option.some.injEq]
      omega
theorem dec_ne (u : Nat) : Lib.decDigits u ≠ [] := by
  intro e
  have h1 := Lib.decDigits_length u
  have h2 := Lib.nDigits_pos u
  rw [e] at h1
  simp at h1
  omega
theorem decNat_dec (u : Nat) : Lib.decNat (Lib.decDigits u) = some u := by
  unfold Lib.decNat
  rw [if_neg (by rw [List.isEmpty_iff]; exact dec_ne u), decFrom_dec]
theorem dec_digit (u : Nat) {c : UInt8} (hc : c ∈ Lib.decDigits u) : 48 ≤ c.toNat ∧ c.toNat ≤ 57 := by
  obtain ⟨k, hk, rfl⟩ := List.getElem_of_mem hc
  obtain ⟨d, hd⟩ := Lib.digit_of_decFrom _ 0 u (decFrom_dec u) k _ (List.getElem?_eq_getElem hk)
  unfold Lib.digitVal at hd
  split at hd
  · assumption
  · cases hd
theorem itoa_byte {n : Int} {c : UInt8} (hc : c ∈ Lib.itoa n) : c.toNat = 45 ∨ (48 ≤ c.toNat ∧ c.toNat ≤ 57) := by
  unfold Lib.itoa at hc
  split at hc
  · rcases List.mem_cons.1 hc with rfl | hc
    · exact .inl rfl
    · exact .inr (dec_digit _ hc)
  · exact .inr (dec_digit _ hc)
theorem itoa_no {n : Int} {c : UInt8} (h : c.toNat ≠ 45 ∧ (c.toNat < 48 ∨ 57 < c.toNat)) : c ∉ Lib.itoa n := fun hc => by
  have := itoa_byte hc
  omega
theorem atoi_itoa (n : Int) : Lib.atoi (Lib.itoa n) = some n := by
  unfold Lib.itoa
  split
  · rw [Lib.atoi, if_pos (by decide), decNat_dec]
    simp only [Option.map_some, Option.some.injEq]
    omega
  · cases hd : Lib.decDigits n.toNat with
    | nil => exact absurd hd (dec_ne _)
    | cons b r =>
      have hb := dec_digit n.toNat (c := b) (by rw [hd]; exact List.mem_cons_self)
      have h1 : (b == 45) = false := beq_false_of_ne (fun e => by subst e; revert hb; decide)
      have h2 : (b == 43) = false := beq_false_of_ne (fun e => by subst e; revert hb; decide)
      rw [Lib.atoi, h1, h2, ← hd, decNat_dec]
      simp only [Bool.false_eq_true, if_false, Option.map_some, Option.some.injEq]
      omega
theorem nDigits_le : ∀ (k u : Nat), u < 10 ^ (k + 1) → Lib.nDigits u ≤ k + 1
  | 0, u, h => by rw [Lib.nDigits_small (by simpa using h)]; exact Nat.le_refl _
  | k + 1, u, h => by
    by_cases h1 : u < 10
    · rw [Lib.nDigits_small h1]; omega
    · rw [Lib.nDigits_big h1]
      have := nDigits_le k (u / 10) (by rw [Nat.pow_succ] at h; omega)
      omega
theorem itoa_len {n : Int} (h : -999999 ≤ n ∧ n ≤ 999999) : (Lib.itoa n).length ≤ 7 := by
  unfold Lib.itoa
  split
  · have := nDigits_le 5 n.natAbs (by omega)
    rw [List.length_cons, Lib.decDigits_length]; omega
  · have := nDigits_le 5 n.toNat (by omega)
    rw [Lib.decDigits_length]; omega
theorem atoiAll_itoa {n : Int} (h : -999999 ≤ n ∧ n ≤ 999999) : Lib.atoiAll (Lib.itoa n) = .ok n := by
  have := itoa_len h
  rw [Lib.atoiAll_short _ (by omega), atoi_itoa]
  rfl
theorem intR_itoa {n : Int} (h : -999999 ≤ n ∧ n ≤ 999999) : intR (Lib.itoa n) = (n, true) := by
  have hw : wrap64 (-n) = -n := IntWalk.wrap64_in _ (by omega)
  unfold intR
  rw [atoiAll_itoa h]
  simp only [hw, Prod.mk.injEq, Bool.and_eq_true, decide_eq_true_eq, true_and]
  omega
theorem intR_true {s : Str} (h : (intR s).2 = true) : Lib.itoa (intR s).1 = s := by
  unfold intR at h ⊢
  split at h
  · rename_i n hn
    simp only [Bool.and_eq_true, decide_eq_true_eq] at h
    exact h.1
  · cases h
  · cases h
/-! ## words -/
def splS : Str → List Str
  | [] => [[]]
  | c :: r => if c = 32 then [] :: splS r else match splS r with
    | [] => [[c]]
    | w :: ws => (c :: w) :: ws
def joinS : List Str → Str
  | [] => []
  | [w] => w
  | w :: ws => w ++ 32 :: joinS ws
theorem splS_ne : ∀ s : Str, splS s ≠ []
  | [] => by simp [splS]
  | c :: r => by
    rw [splS]
    split
    · simp
    · split <;> simp
theorem splS_none : ∀ {s : Str}, 32 ∉ s → splS s = [s]
  | [], _ => rfl
  | c :: r, h => by
    rw [splS, if_neg (fun e => h (by rw [e]; exact List.mem_cons_self)), splS_none fun e => h (List.mem_cons_of_mem _ e)]
theorem splS_app : ∀ {a : Str} (b : Str), 32 ∉ a → splS (a ++ 32 :: b) = a :: splS b
  | [], b, _ => by rw [List.nil_append, splS, if_pos rfl]
  | c :: r, b, h => by
    rw [List.cons_append, splS, if_neg (fun e => h (by rw [e]; exact List.mem_cons_self)), splS_app b fun e => h (List.mem_cons_of_mem _ e)]
theorem splS_join : ∀ {W : List Str}, W ≠ [] → (∀ w ∈ W, 32 ∉ w) → splS (joinS W) = W
  | [], h, _ => absurd rfl h
  | [w], _, h => splS_none (h w List.mem_cons_self)
  | w :: x :: ws, _, h => by
    rw [joinS, splS_app _ (h w List.mem_cons_self), splS_join (by simp) fun z hz => h z (List.mem_cons_of_mem _ hz)]
    simp
theorem join_cons (w : Str) {ws : List Str} (h : ws ≠ []) : joinS (w :: ws) = w ++ 32 :: joinS ws := by
  cases ws with
  | nil => exact absurd rfl h
  | cons x r => rfl
theorem join_splS : ∀ s : Str, joinS (splS s) = s
  | [] => rfl
  | c :: r => by
    have ih := join_splS r
    rw [splS]
    split
    · rename_i h
      rw [join_cons _ (splS_ne r), ih, h]; rfl
    · split
      · rename_i h; exact absurd h (splS_ne r)
      · rename_i w ws h
        rw [h] at ih
        cases ws with
        | nil => rw [show joinS [w] = w from rfl] at ih; rw [show joinS [c :: w] = c :: w from rfl, ih]
        | cons x q =>
          rw [join_cons _ (by simp)] at ih ⊢
          rw [List.cons_append, ih]
theorem split_ix {l : Str} {c : UInt8} {k : Nat} (h : Lib.indexByte l c = (k : Int)) : l = l.take k ++ c :: l.drop (k + 1) ∧ c ∉ l.take k := by
  induction l generalizing k with
  | nil => simp [Lib.indexByte] at h
  | cons b r ih =>
    rw [Lib.indexByte] at h
    by_cases hb : b = c
    · subst hb
      rw [if_pos (by simp)] at h
      obtain rfl : k = 0 := by omega
      simp
    · have hge := Lib.indexByte_ge r c
      rw [if_neg (by simpa using hb)] at h
      split at h
      · omega
      · rename_i h1
        have h1' : ¬ Lib.indexByte r c = -1 := by simpa using h1
        obtain ⟨j, hj⟩ : ∃ j : Nat, Lib.indexByte r c = (j : Int) := ⟨(Lib.indexByte r c).toNat, by omega⟩
        obtain rfl : k = j + 1 := by omega
        obtain ⟨e1, e2⟩ := ih hj
        refine ⟨by simpa using e1, ?_⟩
        rw [List.take_succ_cons, List.mem_cons]
        rintro (rfl | h2)
        · exact hb rfl
        · exact e2 h2
theorem miss_ix {l : Str} {c : UInt8} (h : Lib.indexByte l c = -1) : c ∉ l := by
  induction l with
  | nil => simp
  | cons b r ih =>
    have hge := Lib.indexByte_ge r c
    rw [Lib.indexByte] at h
    by_cases hb : b = c
    · rw [if_pos (by simpa using hb)] at h; omega
    · rw [if_neg (by simpa using hb)] at h
      have h1 : Lib.indexByte r c = -1 := by
        split at h
        · rename_i h2; simpa using h2
        · omega
      rw [List.mem_cons]
      rintro (rfl | h2)
      · exact hb rfl
      · exact ih h1 h2
theorem splitB_spl : ∀ (k : Nat) (s : Str), s.count 32 ≤ k → (Lib.splitB ⟨#[32]⟩ 0 k ⟨s.toArray⟩).map (fun b => b.data.toList) = splS s
  | 0, s, h => by
    rw [Lib.splitB_zero, splS_none (fun hm => by have := List.count_pos_iff.2 hm; omega)]
    rfl
  | k + 1, s, h => by
    have hix : Lib.indexB ⟨s.toArray⟩ ⟨#[32]⟩ = Lib.indexByte s 32 := Lib.index_one s 32
    have hge := Lib.indexByte_ge s 32
    by_cases h1 : Lib.indexByte s 32 = -1
    · rw [Lib.splitB_miss _ _ _ _ (by rw [hix, h1]), splS_none (miss_ix h1)]
      rfl
    · obtain ⟨j, hj⟩ : ∃ j : Nat, Lib.indexByte s 32 = (j : Int) := ⟨(Lib.indexByte s 32).toNat, by omega⟩
      obtain ⟨e1, e2⟩ := split_ix hj
      have e3 : splS s = s.take j :: splS (s.drop (j + 1)) := by
        conv => lhs; rw [e1]
        exact splS_app _ e2
      have hd : (s.drop (j + 1)).count 32 ≤ k := by
        have : s.count 32 = (s.take j).count 32 + ((s.drop (j + 1)).count 32 + 1) := by
          conv => lhs; rw [e1]
          rw [List.count_append, List.count_cons_self]
        omega
      have hx : ({ data := s.toArray } : ByteArray).extract (j + 1) ({ data := s.toArray } : ByteArray).size = ⟨(s.drop (j + 1)).toArray⟩ := by
        rw [ByteArray.extract_mk]
        congr 1
        apply Array.ext'
        simp [ByteArray.size]
        rw [List.take_of_length_le (by simp)]
      have ht : (({ data := s.toArray } : ByteArray).extract 0 j).data.toList = s.take j := by
        rw [ByteArray.extract_mk]
        simp
      rw [Lib.splitB, if_neg (by rw [hix, hj]; simp), hix, hj, Int.toNat_natCast, List.map_cons, Nat.add_zero, ht, show (⟨#[32]⟩ : ByteArray).size = 1 from rfl, hx, splitB_spl k _ hd, e3]
theorem wordsL_spl (s : Str) : wordsL s = splS s := by
  unfold wordsL
  exact splitB_spl _ s (by rw [show Lib.countB ⟨s.toArray⟩ ⟨#[32]⟩ = Lib.count s [32] from rfl, Lib.count_one]; exact Nat.le_refl _)
/-! ## a string cut -/
theorem cut_at {a r : Str} (h : 58 ∉ a) : Lib.cut (a ++ 58 :: 32 :: r) [58, 32] = (a, r, true) := by
  have hi : Lib.index (a ++ 58 :: 32 :: r) [58, 32] = (a.length : Int) := by
    refine Lib.index_first (by simp) (by unfold Lib.occAt; rw [List.drop_left]; simp) fun j hj => ?_
    unfold Lib.occAt
    have hd : a.drop j = a[j] :: a.drop (j + 1) := List.drop_eq_getElem_cons hj
    have this : a[j] ≠ 58 := fun e => h (by rw [← e]; exact List.getElem_mem hj)
    obtain ⟨x, hx⟩ : ∃ x, a[j] = x := ⟨_, rfl⟩
    rw [List.drop_append_of_le_length (Nat.le_of_lt hj), hd, hx]
    rw [hx] at this
    simp [List.isPrefixOf, this.symm]
  unfold Lib.cut
  rw [hi, if_pos (by omega), Int.toNat_natCast]
  simp
theorem cut_true {s : Str} (h : (Lib.cut s [58, 32]).2.2 = true) : s = (Lib.cut s [58, 32]).1 ++ 58 :: 32 :: (Lib.cut s [58, 32]).2.1 := by
  unfold Lib.cut at h ⊢
  split at h
  · rename_i h0
    rw [if_pos h0]
    rcases Lib.index_spec s [58, 32] with ⟨h1, _⟩ | ⟨i, h1, h2, h3, _⟩
    · omega
    · rw [h1, Int.toNat_natCast]
      unfold Lib.occAt at h3
      obtain ⟨t, ht⟩ := List.isPrefixOf_iff_prefix.1 h3
      have h4 : s.drop (i + 2) = t := by rw [← List.drop_drop, ← ht]; rfl
      show s = s.take i ++ 58 :: 32 :: s.drop (i + 2)
      rw [h4]
      conv => lhs; rw [← List.take_append_drop i s, ← ht]
      rfl
  · cases h
theorem suf_iff {s : Str} {c : UInt8} : Lib.hasSuffix s [c] = true ↔ ∃ t, s = t ++ [c] := by
  unfold Lib.hasSuffix
  rw [List.isSuffixOf_iff_suffix]
  exact ⟨fun ⟨t, h⟩ => ⟨t, h.symm⟩, fun ⟨t, h⟩ => ⟨t, h.symm⟩⟩
theorem suf_app (t : Str) (c d : UInt8) : Lib.hasSuffix (t ++ [d]) [c] = decide (c = d) := by
  rw [Bool.eq_iff_iff, suf_iff, decide_eq_true_eq]
  constructor
  · rintro ⟨u, h⟩
    have := List.append_inj_right' h rfl
    simpa using this.symm
  · rintro rfl; exact ⟨t, rfl⟩
theorem trim_app (t : Str) (c : UInt8) : Lib.trimSuffix (t ++ [c]) [c] = t := by
  unfold Lib.trimSuffix
  rw [if_pos (by rw [suf_app]; simp)]
  simp
theorem take_pred (t : Str) (c : UInt8) : (t ++ [c]).take ((t ++ [c]).length - 1) = t := by simp
/-! ## lines -/
theorem lines_app : ∀ {r : Str} (s : Str), 10 ∉ r → linesL (r ++ 10 :: s) = (r ++ [10]) :: linesL s
  | [], s, _ => by rw [List.nil_append, linesL, if_pos rfl]; rfl
  | c :: r, s, h => by
    rw [List.cons_append, linesL, if_neg (fun e => h (by rw [e]; exact List.mem_cons_self)), lines_app s fun e => h (List.mem_cons_of_mem _ e)]
    rfl
theorem lines_one : ∀ {r : Str}, 10 ∉ r → r ≠ [] → linesL r = [r]
  | [], _, h => absurd rfl h
  | c :: r, h, _ => by
    rw [linesL, if_neg (fun e => h (by rw [e]; exact List.mem_cons_self))]
    by_cases hr : r = []
    · subst hr; rfl
    · rw [lines_one (fun e => h (List.mem_cons_of_mem _ e)) hr]
theorem lines_flat : ∀ s : Str, (linesL s).flatten = s
  | [] => rfl
  | c :: r => by
    have ih := lines_flat r
    rw [linesL]
    split
    · rename_i h
      rw [List.flatten_cons, ih, h]; rfl
    · split
      · rename_i h
        rw [h] at ih
        simp at ih
        subst ih
        rfl
      · rename_i l ls h
        rw [h] at ih
        rw [List.flatten_cons] at ih ⊢
        rw [List.cons_append, ih]
end Go.Proofs.YtkmjcoofkgpanaaGreatDoor

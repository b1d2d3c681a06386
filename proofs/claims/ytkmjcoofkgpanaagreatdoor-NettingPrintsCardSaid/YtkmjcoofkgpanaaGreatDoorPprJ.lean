/- A net printed and read again, plain. Conditions: the net has no error. -/
import Derived.Test.YtkmjcoofkgpanaaGreatDoorB21
import Derived.Test.YtkmjcoofkgpanaaGreatDoorPpxJ
import Derived.Test.YtkmjcoofkgpanaaGreatDoorPmhJ
namespace Go.Proofs.YtkmjcoofkgpanaaGreatDoor
open Go.RowKit Go.ChangeMaps
set_option maxHeartbeats 4000000
set_option maxRecDepth 100000

/-! ## a net printed, row by row -/
def wordS (b : Bar) : Str := Lib.itoa b.1 ++ markS b.2.2
def joinW : List Bar → Str
  | [] => []
  | b :: r => 32 :: (wordS b ++ joinW r)
/-- a row of bars, printed -/
def rowS (y : Int) (B : List Bar) : Str := Lib.itoa y ++ 58 :: (joinW B ++ [10])
/-- rows one above the other, the first one above the row p -/
def Grp : Option Int → List (Int × List Bar) → Prop
  | _, [] => True
  | p, (y, B) :: R => (∀ q, p = some q → q < y) ∧ B ≠ [] ∧ (∀ b ∈ B, b.2.1 = y) ∧ Grp (some y) R
def flatG (Bs : List (Int × List Bar)) : List Bar := (Bs.map fun g => g.2).flatten
def rowsG (Bs : List (Int × List Bar)) : List Str := Bs.map fun g => rowS g.1 g.2
theorem flatG_cons (y : Int) (B : List Bar) (R : List (Int × List Bar)) : flatG ((y, B) :: R) = B ++ flatG R := rfl
theorem rowsG_cons (y : Int) (B : List Bar) (R : List (Int × List Bar)) : rowsG ((y, B) :: R) = rowS y B :: rowsG R := rfl
def pr : Option Int → List Bar → Str
  | _, [] => []
  | p, b :: r => (if p = some b.2.1 then [] else Lib.itoa b.2.1 ++ [58]) ++ ([32] ++ Lib.itoa b.1 ++ markS b.2.2) ++ (if r.head?.map (fun c => c.2.1) = some b.2.1 then [] else [10]) ++ pr (some b.2.1) r
theorem prT_pr (l : List Bar) : ∀ n k, k + n = l.length → prT l l.length = prT l k ++ pr (if k = 0 then none else some (yOf l (k - 1))) (l.drop k)
  | 0, k, h => by
    obtain rfl : k = l.length := by omega
    rw [List.drop_length, pr, List.append_nil]
  | n + 1, k, h => by
    have hk : k < l.length := by omega
    have e0 : l.getD k (0, 0, 0) = l[k] := by rw [List.getD_eq_getElem?_getD, List.getElem?_eq_getElem hk]; rfl
    have ey : yOf l k = l[k].2.1 := by unfold yOf; rw [e0]
    have eh : (l.drop (k + 1)).head? = l[k + 1]? := by rw [List.head?_drop]
    rw [prT_pr l n (k + 1) (by omega), if_neg (by omega), Nat.add_sub_cancel, prT, List.drop_eq_getElem_cons hk, pr, List.append_assoc, ← ey, eh]
    congr 1
    unfold chnk
    rw [e0]
    congr 1
    congr 1
    · congr 1
      unfold hdP
      by_cases h0 : k = 0
      · simp [h0]
      · by_cases h1 : yOf l k = yOf l (k - 1)
        · simp [h0, h1]
        · simp [h0, h1, Ne.symm h1]
    · unfold tlP
      by_cases h1 : k + 1 < l.length
      · have e1 : yOf l (k + 1) = l[k + 1].2.1 := by unfold yOf; rw [List.getD_eq_getElem?_getD, List.getElem?_eq_getElem h1]; rfl
        rw [List.getElem?_eq_getElem h1]
        by_cases h2 : yOf l (k + 1) = yOf l k
        · simp [h2, ← e1]; omega
        · simp [h2, ← e1]
      · rw [List.getElem?_eq_none (by omega)]
        have : k + 1 = l.length := by omega
        simp [this]
theorem print_pr (l : List Bar) : printL l = pr none l := by
  unfold printL
  rw [prT_pr l l.length 0 (by omega)]
  simp [prT]
theorem pr_in {y : Int} {R : List Bar} (hR : ∀ c, R.head? = some c → c.2.1 ≠ y) : ∀ {B : List Bar}, B ≠ [] → (∀ b ∈ B, b.2.1 = y) → pr (some y) (B ++ R) = joinW B ++ [10] ++ pr (some y) R
  | [], h, _ => absurd rfl h
  | [b], _, hy => by
    have hb := hy b List.mem_cons_self
    have : ¬ (R.head?.map fun c => c.2.1) = some y := fun e => by
      cases hh : R.head? with
      | none => rw [hh] at e; cases e
      | some c => rw [hh] at e; exact hR c hh (by simpa using e)
    rw [List.cons_append, List.nil_append, pr, hb, if_pos rfl, if_neg this]
    simp [joinW, wordS]
  | b :: c :: r, _, hy => by
    have hb := hy b List.mem_cons_self
    have hc := hy c (List.mem_cons_of_mem _ List.mem_cons_self)
    have ih := pr_in hR (B := c :: r) (by simp) fun x hx => hy x (List.mem_cons_of_mem _ hx)
    rw [List.cons_append, pr, hb, if_pos rfl, ih, List.cons_append, if_pos (by simp [hc])]
    simp [joinW, wordS]
theorem pr_head {p : Option Int} {b : Bar} {r : List Bar} (h : p ≠ some b.2.1) : pr p (b :: r) = Lib.itoa b.2.1 ++ 58 :: pr (some b.2.1) (b :: r) := by
  rw [pr, pr, if_neg h, if_pos rfl]
  simp
theorem grp_head {y : Int} {R : List (Int × List Bar)} (h : Grp (some y) R) {c : Bar} (hc : (flatG R).head? = some c) : c.2.1 ≠ y := by
  cases R with
  | nil => simp [flatG] at hc
  | cons g R =>
    obtain ⟨z, B⟩ := g
    obtain ⟨h1, h2, h3, _⟩ := h
    cases B with
    | nil => exact absurd rfl h2
    | cons b B =>
      obtain rfl : b = c := by simpa [flatG] using hc
      have := h1 y rfl
      have := h3 b List.mem_cons_self
      omega
theorem pr_grp : ∀ (Bs : List (Int × List Bar)) (p : Option Int), Grp p Bs → pr p (flatG Bs) = (rowsG Bs).flatten
  | [], p, _ => by cases p <;> rfl
  | (y, B) :: R, p, ⟨h1, h2, h3, h4⟩ => by
    rw [flatG_cons, rowsG_cons, List.flatten_cons, ← pr_grp R (some y) h4]
    cases B with
    | nil => exact absurd rfl h2
    | cons b r =>
      have hb := h3 b List.mem_cons_self
      have hp : p ≠ some b.2.1 := fun e => by have := h1 _ e; omega
      have e := pr_in (fun c hc => grp_head h4 hc) h2 h3
      rw [List.cons_append] at e ⊢
      rw [pr_head hp, hb, e]
      simp [rowS]
theorem print_grp {Bs : List (Int × List Bar)} (h : Grp none Bs) : printL (flatG Bs) = (rowsG Bs).flatten := by rw [print_pr, pr_grp Bs none h]
theorem grp_of : ∀ {l : List Bar}, l.Pairwise (fun a b => a.2.1 ≤ b.2.1) → ∃ Bs, Grp none Bs ∧ flatG Bs = l
  | [], _ => ⟨[], trivial, rfl⟩
  | b :: r, h => by
    obtain ⟨h1, h2⟩ := List.pairwise_cons.1 h
    obtain ⟨Bs, hG, hf⟩ := grp_of h2
    cases Bs with
    | nil =>
      refine ⟨[(b.2.1, [b])], ⟨fun q hq => (by cases hq), by simp, fun c hc => (by rw [List.mem_singleton.1 hc]), trivial⟩, ?_⟩
      rw [← hf]; rfl
    | cons g R =>
      obtain ⟨y, B⟩ := g
      obtain ⟨_, g2, g3, g4⟩ := hG
      have hby : b.2.1 ≤ y := by
        cases B with
        | nil => exact absurd rfl g2
        | cons c B =>
          rw [← g3 c List.mem_cons_self]
          exact h1 c (by rw [← hf, flatG_cons]; simp)
      by_cases e : b.2.1 = y
      · refine ⟨(y, b :: B) :: R, ⟨fun q hq => (by cases hq), by simp, fun c hc => ?_, g4⟩, by rw [← hf, flatG_cons, flatG_cons]; rfl⟩
        rcases List.mem_cons.1 hc with rfl | hc
        · exact e
        · exact g3 c hc
      · refine ⟨(b.2.1, [b]) :: (y, B) :: R, ⟨fun q hq => (by cases hq), by simp, fun c hc => (by rw [List.mem_singleton.1 hc]), fun q hq => ?_, g2, g3, g4⟩, by rw [← hf, flatG_cons]; rfl⟩
        obtain rfl : b.2.1 = q := by simpa using hq
        omega
theorem sorted_rows {l : List Bar} (h : l.Pairwise bltP) : l.Pairwise fun a b => a.2.1 ≤ b.2.1 := h.imp fun hab => by rw [bltP_iff] at hab; omega
/-! ## a row read again -/
def CordIn (n : Int) : Prop := -999999 ≤ n ∧ n ≤ 999999
theorem word_no {b : Bar} {c : UInt8} (h : c = 32 ∨ c = 10) : c ∉ wordS b := by
  unfold wordS markS
  rw [List.mem_append]
  rintro (h1 | h1)
  · exact itoa_no (by rcases h with rfl | rfl <;> decide) h1
  · rcases h with rfl | rfl <;> (split at h1 <;> simp at h1)
theorem wordR_word {b : Bar} (hs : b.2.2 = 1 ∨ b.2.2 = -1) (hx : CordIn b.1) : wordR b.2.1 (wordS b) = some b := by
  obtain ⟨x, y, s⟩ := b
  have hi := intR_itoa hx
  simp only at hs hi ⊢
  unfold wordR wordS markS
  simp only
  rcases hs with rfl | rfl
  · rw [if_pos rfl, suf_app, take_pred, hi]
    simp
  · rw [show (if (-1 : Int) = 1 then ([47] : Str) else [92]) = [92] from rfl, suf_app, suf_app, take_pred, hi]
    simp
theorem joinW_join : ∀ {B : List Bar}, B ≠ [] → joinW B = 32 :: joinS (B.map wordS)
  | [], h => absurd rfl h
  | [b], _ => by simp [joinW, joinS]
  | b :: c :: r, _ => by
    rw [joinW, joinW_join (B := c :: r) (by simp), show (b :: c :: r).map wordS = wordS b :: (c :: r).map wordS from rfl, join_cons _ (by simp)]
theorem wordsR_map {y : Int} : ∀ {B : List Bar}, (∀ b ∈ B, b.2.1 = y ∧ (b.2.2 = 1 ∨ b.2.2 = -1) ∧ CordIn b.1) → wordsR y (B.map wordS) = some B
  | [], _ => rfl
  | b :: r, h => by
    obtain ⟨h1, h2, h3⟩ := h b List.mem_cons_self
    have h4 := wordR_word h2 h3
    rw [h1] at h4
    rw [List.map_cons, wordsR, h4]
    show (wordsR y (r.map wordS)).map _ = _
    rw [wordsR_map fun c hc => h c (List.mem_cons_of_mem _ hc)]
    rfl
theorem row_form {y : Int} {B : List Bar} (h : B ≠ []) : rowS y B = (Lib.itoa y ++ 58 :: 32 :: joinS (B.map wordS)) ++ [10] := by
  unfold rowS
  rw [joinW_join h]
  simp
theorem no58 (n : Int) : (58 : UInt8) ∉ Lib.itoa n := itoa_no (by decide)
theorem lineR_row {y : Int} {B : List Bar} (hB : B ≠ []) (hy : CordIn y) (h : ∀ b ∈ B, b.2.1 = y ∧ (b.2.2 = 1 ∨ b.2.2 = -1) ∧ CordIn b.1) : lineR (rowS y B) = some B := by
  rw [row_form hB]
  unfold lineR
  rw [suf_app, trim_app, cut_at (no58 y), intR_itoa hy, wordsL_spl, splS_join (by simpa using hB) (fun w hw => by
    obtain ⟨b, _, rfl⟩ := List.mem_map.1 hw
    exact word_no (.inl rfl)), wordsR_map h]
  simp
theorem wordR_inv {y : Int} {w : Str} {b : Bar} (h : wordR y w = some b) : w = wordS b ∧ b.2.1 = y ∧ (b.2.2 = 1 ∨ b.2.2 = -1) := by
  unfold wordR at h
  split at h
  · rename_i h1
    obtain ⟨t, rfl⟩ := suf_iff.1 h1
    rw [take_pred] at h
    split at h
    · rename_i h2
      obtain rfl := Option.some.inj h
      refine ⟨?_, rfl, .inl rfl⟩
      unfold wordS markS
      rw [if_pos rfl, intR_true h2]
    · cases h
  · split at h
    · rename_i h1
      obtain ⟨t, rfl⟩ := suf_iff.1 h1
      rw [take_pred] at h
      split at h
      · rename_i h2
        obtain rfl := Option.some.inj h
        refine ⟨?_, rfl, .inr rfl⟩
        show _ = Lib.itoa _ ++ [92]
        rw [intR_true h2]
      · cases h
    · cases h
theorem wordsR_inv {y : Int} : ∀ {W : List Str} {B : List Bar}, wordsR y W = some B → W = B.map wordS ∧ ∀ b ∈ B, b.2.1 = y ∧ (b.2.2 = 1 ∨ b.2.2 = -1)
  | [], B, h => by
    obtain rfl : [] = B := Option.some.inj h
    exact ⟨rfl, by simp⟩
  | w :: r, B, h => by
    rw [wordsR] at h
    cases hw : wordR y w with
    | none => rw [hw] at h; cases h
    | some b =>
      rw [hw] at h
      obtain ⟨C, hC, rfl⟩ := Option.map_eq_some_iff.1 h
      obtain ⟨h1, h2⟩ := wordsR_inv hC
      obtain ⟨g1, g2⟩ := wordR_inv hw
      refine ⟨by rw [List.map_cons, ← h1, ← g1], fun c hc => ?_⟩
      rcases List.mem_cons.1 hc with rfl | hc
      · exact g2
      · exact h2 c hc
theorem lineR_inv {s : Str} {B : List Bar} (h : lineR s = some B) : ∃ y, B ≠ [] ∧ (∀ b ∈ B, b.2.1 = y ∧ (b.2.2 = 1 ∨ b.2.2 = -1)) ∧ s = rowS y B := by
  unfold lineR at h
  split at h
  · rename_i h0
    simp only [Bool.and_eq_true] at h0
    obtain ⟨⟨h1, h2⟩, h3⟩ := h0
    obtain ⟨t, rfl⟩ := suf_iff.1 h1
    rw [trim_app] at h h2 h3
    obtain ⟨e1, e2⟩ := wordsR_inv h
    rw [wordsL_spl] at e1
    have hB : B ≠ [] := fun e => by rw [e] at e1; exact splS_ne _ e1
    refine ⟨_, hB, e2, ?_⟩
    rw [row_form hB, ← e1, join_splS, intR_true h3, ← cut_true h2]
  · cases h
/-! ## nets read -/
structure Vn (l : List Bar) : Prop where
  len : l.length ≤ 4096
  bars : ∀ b ∈ l, barE b.1 b.2.1 b.2.2 = 0
  sorted : l.Pairwise bltP
theorem Vn.net {l : List Bar} (h : Vn l) : netE l = 0 := netE_zero h.bars h.sorted h.len
theorem vn_of {l : List Bar} (h : netE l = 0) : Vn l := ⟨(netE_ok h).len, netE_bars h, (netE_ok h).sorted⟩
theorem errP_inv {out : List Bar} {i : Nat} {b : Bar} (h : errP out i b = 0) : barE b.1 b.2.1 b.2.2 = 0 ∧ lateP out i b = false ∧ out.length ≠ 4096 := by
  unfold errP at h
  obtain ⟨h1, h2, h3⟩ := firstI3_zero h
  refine ⟨h1, ?_, errP_zero (by unfold errP; exact h)⟩
  cases hq : lateP out i b with
  | false => rfl
  | true => rw [hq] at h2; cases h2
theorem last_max {l : List Bar} (h : l.Pairwise bltP) {q a : Bar} (hq : l.getLast? = some q) (ha : a ∈ l) : a = q ∨ bltP a q := by
  obtain ⟨r, rfl⟩ := List.getLast?_eq_some_iff.1 hq
  rcases List.mem_append.1 ha with h1 | h1
  · exact .inr ((List.pairwise_append.1 h).2.2 a h1 q (by simp))
  · exact .inl (by simpa using h1)
theorem vn_step {out : List Bar} {i : Nat} {b : Bar} (h : Vn out) (he : errP out i b = 0) : Vn (out ++ [b]) := by
  obtain ⟨h1, h2, h3⟩ := errP_inv he
  refine ⟨by have := h.len; simp; omega, fun c hc => ?_, List.pairwise_append.2 ⟨h.sorted, by simp, fun a ha c hc => ?_⟩⟩
  · rcases List.mem_append.1 hc with hc | hc
    · exact h.bars c hc
    · obtain rfl : c = b := by simpa using hc
      exact h1
  · obtain rfl : c = b := by simpa using hc
    cases hq : out.getLast? with
    | none => rw [List.getLast?_eq_none_iff] at hq; rw [hq] at ha; cases ha
    | some q =>
      unfold lateP at h2
      rw [hq] at h2
      simp only [Bool.or_eq_false_iff, Bool.not_eq_false'] at h2
      rcases last_max h.sorted hq ha with rfl | h4
      · exact h2.1
      · exact bltP_trans h4 h2.1
theorem late_row {out : List Bar} {b q : Bar} (h : lateP out 0 b = false) (hq : out.getLast? = some q) : q.2.1 < b.2.1 := by
  unfold lateP at h
  rw [hq] at h
  simp only [Bool.or_eq_false_iff, Bool.and_eq_false_iff, decide_eq_false_iff_not] at h
  have h2 := h.2
  unfold cmpI at h2
  rcases h2 with h2 | h2
  · exact absurd trivial h2
  · split at h2
    · assumption
    · split at h2 <;> omega
theorem parseB_inv : ∀ {B : List Bar} {i : Nat} {out res : List Bar}, Vn out → parseB i B out = (0, res) → res = out ++ B ∧ Vn res
  | [], i, out, res, hv, h => by
    obtain rfl : out = res := by simpa [parseB] using h
    exact ⟨by simp, hv⟩
  | b :: r, i, out, res, hv, h => by
    rw [parseB] at h
    split at h
    · rename_i h1; exact absurd (congrArg (·.1) h) h1
    · rename_i h1
      obtain ⟨h2, h3⟩ := parseB_inv (vn_step hv (by simpa using h1)) h
      exact ⟨by rw [h2]; simp, h3⟩
theorem parseB_first {b : Bar} {r out res : List Bar} (h : parseB 0 (b :: r) out = (0, res)) : lateP out 0 b = false := by
  rw [parseB] at h
  split at h
  · rename_i h1; exact absurd (congrArg (·.1) h) h1
  · rename_i h1
    exact (errP_inv (by simpa using h1)).2.1
theorem last_row {out B : List Bar} {y : Int} (hB : B ≠ []) (h : ∀ b ∈ B, b.2.1 = y) : (out ++ B).getLast?.map (fun c => c.2.1) = some y := by
  rw [List.getLast?_append, List.getLast?_eq_some_getLast hB]
  simp [h _ (List.getLast_mem hB)]
theorem parseLs_inv : ∀ {Ls : List Str} {k : Nat} {out res : List Bar} {at_ : Int}, Vn out → parseLs k Ls out = (res, at_, 0) →
    ∃ Bs, Grp (out.getLast?.map fun c => c.2.1) Bs ∧ Ls = rowsG Bs ∧ res = out ++ flatG Bs ∧ Vn res ∧ at_ = 0
  | [], k, out, res, at_, hv, h => by
    obtain ⟨rfl, rfl⟩ : out = res ∧ 0 = at_ := by simpa [parseLs] using h
    exact ⟨[], trivial, rfl, by simp [flatG], hv, rfl⟩
  | l :: r, k, out, res, at_, hv, h => by
    rw [parseLs] at h
    cases hl : lineR l with
    | none => rw [hl] at h; simp at h
    | some bars =>
      rw [hl] at h
      simp only at h
      split at h
      · rename_i h1
        exact absurd (congrArg (fun z => z.2.2) h) h1
      · rename_i h1
        have h2 : parseB 0 bars out = (0, (parseB 0 bars out).2) := by
          have : (parseB 0 bars out).1 = 0 := by simpa using h1
          rw [← this]
        obtain ⟨h3, h4⟩ := parseB_inv hv h2
        rw [h3] at h h4
        obtain ⟨Bs, g1, g2, g3, g4, g5⟩ := parseLs_inv h4 h
        obtain ⟨y, e1, e2, e3⟩ := lineR_inv hl
        refine ⟨(y, bars) :: Bs, ⟨fun q hq => ?_, e1, fun b hb => (e2 b hb).1, ?_⟩, by rw [rowsG_cons, ← g2, ← e3], by rw [g3, flatG_cons, List.append_assoc], g4, g5⟩
        · cases bars with
          | nil => exact absurd rfl e1
          | cons b B =>
            obtain ⟨c, hc, rfl⟩ := Option.map_eq_some_iff.1 hq
            rw [← (e2 b List.mem_cons_self).1]
            exact late_row (parseB_first h2) hc
        · rw [last_row e1 fun b hb => (e2 b hb).1] at g1
          exact g1
theorem print_parse {s : Str} {x : List Bar} {at_ : Int} (h : parseR s = (x, at_, 0)) : netE x = 0 ∧ printL x = s ∧ s.length ≤ 65536 := by
  unfold parseR at h
  split at h
  · simp at h
  · rename_i hl
    obtain ⟨Bs, h1, h2, h3, h4, _⟩ := parseLs_inv ⟨by simp, by simp, by simp⟩ h
    refine ⟨h4.net, ?_, by omega⟩
    rw [h3, List.nil_append, print_grp h1, ← h2, lines_flat]
theorem Vn.sub {a b : List Bar} (h : Vn (a ++ b)) : Vn a := ⟨by have := h.len; simp at this; omega, fun x hx => h.bars x (List.mem_append_left _ hx), (List.pairwise_append.1 h.sorted).1⟩
theorem errP_fwd {out r : List Bar} {i : Nat} {b : Bar} (h : Vn (out ++ b :: r)) (hi : i = 0 → ∀ q, out.getLast? = some q → q.2.1 < b.2.1) : errP out i b = 0 := by
  have h1 := h.bars b (by simp)
  have h2 : lateP out i b = false := by
    unfold lateP
    cases hq : out.getLast? with
    | none => rfl
    | some q =>
      have h3 : bltP q b := (List.pairwise_append.1 h.sorted).2.2 q (List.mem_of_getLast? hq) b List.mem_cons_self
      simp only [Bool.or_eq_false_iff, Bool.and_eq_false_iff, decide_eq_false_iff_not, Bool.not_eq_false']
      refine ⟨h3, ?_⟩
      by_cases h0 : i = 0
      · have := hi h0 q hq
        refine .inr ?_
        unfold cmpI
        rw [if_pos this]
        decide
      · exact .inl h0
  have h3 : out.length ≠ 4096 := by have := h.len; simp at this; omega
  unfold errP
  rw [h1, h2]
  simp [firstI, whenI, h3]
theorem parseB_fwd : ∀ {B : List Bar} {i : Nat} {out : List Bar}, Vn (out ++ B) → (∀ b r, B = b :: r → i = 0 → ∀ q, out.getLast? = some q → q.2.1 < b.2.1) → parseB i B out = (0, out ++ B)
  | [], i, out, _, _ => by simp [parseB]
  | b :: r, i, out, hv, hi => by
    have h1 := errP_fwd hv (fun h => hi b r rfl h)
    have e : out ++ b :: r = (out ++ [b]) ++ r := by simp
    rw [parseB, if_neg (by simp [h1]), parseB_fwd (by rw [← e]; exact hv) (fun _ _ _ h => by cases h), e]
theorem bar_cord {b : Bar} (h : barE b.1 b.2.1 b.2.2 = 0) : (b.2.2 = 1 ∨ b.2.2 = -1) ∧ CordIn b.1 ∧ CordIn b.2.1 := by
  obtain ⟨q1, q2, _, _, q5⟩ := barE_ends h
  simp only at q1 q2 q5
  unfold CordIn
  refine ⟨q5, by omega, by omega⟩
theorem parse_rows : ∀ {Bs : List (Int × List Bar)} {k : Nat} {out : List Bar} (T : List Str), Grp (out.getLast?.map fun c => c.2.1) Bs → Vn (out ++ flatG Bs) → parseLs k (rowsG Bs ++ T) out = parseLs (k + Bs.length) T (out ++ flatG Bs)
  | [], k, out, T, _, _ => by simp [rowsG, flatG]
  | (y, B) :: R, k, out, T, ⟨h1, h2, h3, h4⟩, hv => by
    rw [flatG_cons, ← List.append_assoc] at hv
    have hB := fun b (hb : b ∈ B) => bar_cord (hv.bars b (by simp [hb]))
    have hy : CordIn y := by
      cases B with
      | nil => exact absurd rfl h2
      | cons b r => rw [← h3 b List.mem_cons_self]; exact (hB b List.mem_cons_self).2.2
    have hl := lineR_row h2 hy fun b hb => ⟨h3 b hb, (hB b hb).1, (hB b hb).2.1⟩
    have hp := parseB_fwd (i := 0) hv.sub fun b r e _ q hq => by
      rw [h3 b (by rw [e]; exact List.mem_cons_self)]
      exact h1 _ (by rw [hq]; rfl)
    rw [rowsG_cons, List.cons_append, parseLs, hl]
    simp only [hp]
    rw [if_neg (by simp), parse_rows T (by rw [last_row h2 h3]; exact h4) hv, flatG_cons, List.append_assoc, List.length_cons]
    congr 1
    omega
theorem row_no10 {y : Int} {B : List Bar} (hB : B ≠ []) : ∃ r, rowS y B = r ++ [10] ∧ (10 : UInt8) ∉ r ∧ r ≠ [] := by
  refine ⟨_, row_form hB, ?_, by simp⟩
  have hj : ∀ W : List Str, (∀ w ∈ W, (10 : UInt8) ∉ w) → (10 : UInt8) ∉ joinS W := by
    intro W
    induction W with
    | nil => intro _; simp [joinS]
    | cons w ws ih =>
      intro h
      cases ws with
      | nil => exact h w List.mem_cons_self
      | cons x q =>
        rw [join_cons _ (by simp), List.mem_append, List.mem_cons]
        rintro (h1 | h1 | h1)
        · exact h w List.mem_cons_self h1
        · exact absurd h1 (by decide)
        · exact ih (fun z hz => h z (List.mem_cons_of_mem _ hz)) h1
  rw [List.mem_append, List.mem_cons, List.mem_cons]
  rintro (h1 | h1 | h1 | h1)
  · exact itoa_no (by decide) h1
  · exact absurd h1 (by decide)
  · exact absurd h1 (by decide)
  · exact hj _ (fun w hw => by obtain ⟨b, _, rfl⟩ := List.mem_map.1 hw; exact word_no (.inr rfl)) h1
theorem lines_rows : ∀ {Bs : List (Int × List Bar)} {p : Option Int} (s : Str), Grp p Bs → linesL ((rowsG Bs).flatten ++ s) = rowsG Bs ++ linesL s
  | [], _, s, _ => rfl
  | (y, B) :: R, _, s, ⟨_, h2, _, h4⟩ => by
    obtain ⟨r, e1, e2, _⟩ := row_no10 (y := y) h2
    rw [rowsG_cons, List.flatten_cons, e1, List.append_assoc, List.append_assoc, List.singleton_append, lines_app _ e2, lines_rows s h4]
    rfl
theorem parse_print {l : List Bar} (h : netE l = 0) (hl : (printL l).length ≤ 65536) : parseR (printL l) = (l, 0, 0) := by
  obtain ⟨Bs, h1, rfl⟩ := grp_of (sorted_rows (netE_ok h).sorted)
  have h2 := print_grp h1
  have h3 := lines_rows [] h1
  rw [List.append_nil] at h3
  unfold parseR
  rw [if_neg (by omega), h2, h3, parse_rows (out := []) _ h1 (by rw [List.nil_append]; exact vn_of h)]
  rfl
theorem grp_snoc : ∀ {Bs : List (Int × List Bar)} {p : Option Int} {g : Int × List Bar}, Grp p (Bs ++ [g]) → Grp p Bs ∧ g.2 ≠ []
  | [], p, (y, B), ⟨_, h2, _, _⟩ => ⟨trivial, h2⟩
  | (z, C) :: R, p, g, ⟨h1, h2, h3, h4⟩ => by
    obtain ⟨g1, g2⟩ := grp_snoc (p := some z) h4
    exact ⟨⟨h1, h2, h3, g1⟩, g2⟩
theorem parse_cut {l : List Bar} (h : netE l = 0) (hne : l ≠ []) (hl : (printL l).length ≤ 65536) : printL l ≠ [] ∧ ∃ k : Nat, parseR ((printL l).take ((printL l).length - 1)) = ([], (k : Int), 25) := by
  obtain ⟨Bs, h1, rfl⟩ := grp_of (sorted_rows (netE_ok h).sorted)
  rcases List.eq_nil_or_concat Bs with rfl | ⟨R, g, rfl⟩
  · exact absurd rfl hne
  · rw [List.concat_eq_append] at h1 h hne hl ⊢
    obtain ⟨g1, g2⟩ := grp_snoc h1
    have h2 := print_grp h1
    obtain ⟨r, e1, e2, e3⟩ := row_no10 (y := g.1) g2
    have h3 : (rowsG (R ++ [g])).flatten = ((rowsG R).flatten ++ r) ++ [10] := by
      unfold rowsG
      rw [List.map_append, List.flatten_append, List.map_singleton, List.flatten_singleton, e1, List.append_assoc]
    rw [h3] at h2
    have hf : flatG (R ++ [g]) = flatG R ++ g.2 := by unfold flatG; simp
    have hv := vn_of h
    rw [hf] at hv
    refine ⟨by rw [h2]; simp, R.length, ?_⟩
    rw [h2] at hl ⊢
    rw [take_pred]
    have hl2 : ¬ 65536 < ((rowsG R).flatten ++ r).length := by simp at hl ⊢; omega
    have hn : lineR r = none := by
      unfold lineR
      have : Lib.hasSuffix r [10] = false := by
        cases hq : Lib.hasSuffix r [10] with
        | false => rfl
        | true =>
          obtain ⟨t, rfl⟩ := suf_iff.1 hq
          exact absurd (by simp) e2
      rw [this]; rfl
    unfold parseR
    rw [if_neg hl2, lines_rows r g1, lines_one e2 e3, parse_rows (out := []) _ g1 (by rw [List.nil_append]; exact hv.sub), parseLs, hn]
    simp
theorem print_len {l : List Bar} (h : netE l = 0) (hl : l.length ≤ 40) : (printL l).length ≤ 2400 := by
  have := prT_len l (netE_ok h).ok l.length (Nat.le_refl _)
  unfold printL
  omega
end Go.Proofs.YtkmjcoofkgpanaaGreatDoor

/- The trimming by rule, the program's way and the reference's: plain. Conditions: none. -/
import Derived.Test.YthcnngoaijgnoaaGreatK11
import Derived.Test.YthcnngoaijgnoaaGreatPruJ
namespace Go.Proofs.YthcnngoaijgnoaaGreat

/-- the program's rounds: f of them at most -/
def ruleP : Nat → List Bar → List Bar → List Bar → Option (List Bar)
  | 0, _, _, _ => none
  | f + 1, S, D, out => if rdyB D then some out else match chosenB D S with
    | none => none
    | some b => ruleP f (wout S [b]) (D ++ [b]) (out ++ [b])
theorem lastK_congr {D D' : List Bar} (h : ∀ b, b ∈ D ↔ b ∈ D') (S : List Bar) : ∀ l, lastK D S l = lastK D' S l
  | [] => rfl
  | k :: r => by
    unfold lastK lastOf
    rw [legsAt_congr h, lastK_congr h S r]
theorem wantB_congr {D D' : List Bar} (h : ∀ b, b ∈ D ↔ b ∈ D') (w : Nat) : wantB D w = wantB D' w := by
  funext b
  unfold wantB
  rw [legsAt_congr h]
theorem wantF_congr {D D' : List Bar} (h : ∀ b, b ∈ D ↔ b ∈ D') (S : List Bar) : ∀ w, wantF D S w = wantF D' S w
  | 0 => rfl
  | w + 1 => by
    unfold wantF
    rw [wantB_congr h, wantF_congr h S w]
theorem chosen_congr {D D' : List Bar} (h : ∀ b, b ∈ D ↔ b ∈ D') (S : List Bar) : chosenB D S = chosenB D' S := by
  unfold chosenB
  rw [holeK_congr h, lastK_congr h, wantF_congr h]
theorem wout_more (N D : List Bar) (b : Bar) : wout (wout N D) [b] = wout N (tog D [b]) := by
  unfold wout
  rw [List.filter_filter]
  congr 1
  funext x
  rw [Bool.eq_iff_iff]
  simp only [Bool.and_eq_true, Bool.not_eq_true', hasb_not, List.mem_singleton, tog_mem]
  constructor
  · rintro ⟨h1, h2⟩ (h | h)
    · exact h2 h
    · exact h1 h
  · exact fun h => ⟨fun e => h (.inr e), fun e => h (.inl e)⟩
theorem tog_new {D : List Bar} {b : Bar} (h : b ∉ D) : tog D [b] = insB D b := by
  unfold tog
  rw [List.foldl_cons, List.foldl_nil, if_neg (by rw [hasb_mem]; exact h)]
theorem rule_eq (N : List Bar) : ∀ (f : Nat) (D D' out : List Bar), (∀ b, b ∈ D ↔ b ∈ D') → D.length = D'.length → out.Nodup → (∀ b ∈ out, b ∈ D') →
    (ruleP f (wout N D') D out).map srtB = ruleF N f D' (srtB out)
  | 0, _, _, _, _, _, _, _ => rfl
  | f + 1, D, D', out, h, hl, hn, hs => by
    have hr : rdyB D = rdyB D' := by unfold rdyB; rw [runO_congr h hl]
    unfold ruleP ruleF
    rw [hr, chosen_congr h]
    cases rdyB D' with
    | true => rfl
    | false =>
      rw [if_neg (by simp), if_neg (by simp)]
      cases hc : chosenB D' (wout N D') with
      | none => rfl
      | some b =>
        have hb := wout_mem.1 (chosen_mem hc)
        have hbo : b ∉ out := fun hm => hb.2 (hs b hm)
        have hn' : (out ++ [b]).Nodup := by
          rw [List.nodup_append]
          exact ⟨hn, by simp, fun x hx y hy e => hbo (by rw [List.mem_singleton] at hy; rw [← hy, ← e]; exact hx)⟩
        have hi : insB (srtB out) b = srtB (out ++ [b]) := (srtB_unique hn' (insB_sorted (srtB_sorted hn) (by rw [srtB_mem]; exact hbo)) fun x => by
          rw [insB_mem, srtB_mem, List.mem_append, List.mem_singleton, or_comm]).symm
        show (ruleP f (wout (wout N D') [b]) (D ++ [b]) (out ++ [b])).map srtB = ruleF N f (tog D' [b]) (insB (srtB out) b)
        rw [wout_more, hi]
        refine rule_eq N f (D ++ [b]) (tog D' [b]) (out ++ [b]) (fun x => ?_) ?_ hn' fun x hx => ?_
        · rw [List.mem_append, List.mem_singleton, tog_one, h]
        · rw [tog_new hb.2, insB_len, List.length_append, hl]; rfl
        · rw [tog_one]
          rcases List.mem_append.1 hx with hx | hx
          · exact .inl (hs x hx)
          · exact .inr (by simpa using hx)
end Go.Proofs.YthcnngoaijgnoaaGreat

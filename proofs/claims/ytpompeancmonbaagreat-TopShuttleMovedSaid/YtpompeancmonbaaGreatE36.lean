/- Parts and labels of knots, plain. Conditions: none. -/
import Derived.Test.YtpompeancmonbaaGreatE08
import Derived.Test.YtpompeancmonbaaGreatE17
import Derived.Test.YtpompeancmonbaaGreatE23
import Derived.Test.YtpompeancmonbaaGreatE22
import Derived.Test.YtpompeancmonbaaGreatE24
import Derived.Test.YtpompeancmonbaaGreatE26
import Derived.Test.YtpompeancmonbaaGreatE14
import Derived.Test.YtpompeancmonbaaGreatE34
import Derived.Test.YtpompeancmonbaaGreatE30
import Derived.Test.YtpompeancmonbaaGreatE35
namespace Go.Proofs.YtpompeancmonbaaGreat
open Go.RowKit Go.ChangeMaps
set_option maxHeartbeats 4000000
set_option maxRecDepth 100000

/-- a bar leads from one knot to the other -/
def Leads (b : Bar) (u v : Knot) : Prop := u = lowK b ∧ v = uppK b ∨ u = uppK b ∧ v = lowK b
theorem Leads.symm {b : Bar} {u v : Knot} (h : Leads b u v) : Leads b v u := by
  rcases h with ⟨h1, h2⟩ | ⟨h1, h2⟩
  · exact .inr ⟨h2, h1⟩
  · exact .inl ⟨h2, h1⟩
/-- the knots that are connected with a knot -/
inductive KC (l : List Bar) (u : Knot) : Knot → Prop
  | refl : KC l u u
  | step {v w : Knot} {b : Bar} : KC l u v → b ∈ l → Leads b v w → KC l u w
theorem KC.trans {l : List Bar} {u v w : Knot} (h : KC l u v) (h' : KC l v w) : KC l u w := by
  induction h' with
  | refl => exact h
  | step _ hm ht ih => exact ih.step hm ht
theorem KC.symm {l : List Bar} {u v : Knot} (h : KC l u v) : KC l v u := by
  induction h with
  | refl => exact .refl
  | step _ hm ht ih => exact (KC.step .refl hm ht.symm).trans ih
theorem KC.mono {l l' : List Bar} (hs : ∀ b ∈ l, b ∈ l') {u v : Knot} (h : KC l u v) : KC l' u v := by
  induction h with
  | refl => exact .refl
  | step _ hm ht ih => exact ih.step (hs _ hm) ht
theorem KC.bar {l : List Bar} {b : Bar} (h : b ∈ l) : KC l (lowK b) (uppK b) := KC.step .refl h (.inl ⟨rfl, rfl⟩)
theorem KC.nil_ {u v : Knot} (h : KC [] u v) : u = v := by
  induction h with
  | refl => rfl
  | step _ hm _ _ => simp at hm
theorem KC.ends {l : List Bar} {u v : Knot} (h : KC l u v) (hne : u ≠ v) : v ∈ holeK l := by
  cases h with
  | refl => exact absurd rfl hne
  | step _ hm ht =>
    rename_i b _
    refine (holeIn_mem _ l []).2 (.inr ⟨b, hm, ?_⟩)
    rcases ht with ⟨_, h⟩ | ⟨_, h⟩
    · exact .inr h
    · exact .inl h
theorem KC.cons_iff {l : List Bar} {b : Bar} {u v : Knot} : KC (b :: l) u v ↔ KC l u v ∨ (KC l u (lowK b) ∨ KC l u (uppK b)) ∧ (KC l v (lowK b) ∨ KC l v (uppK b)) := by
  constructor
  · intro h
    induction h with
    | refl => exact .inl .refl
    | step _ hm ht ih =>
      rename_i x w c _
      rcases List.mem_cons.1 hm with rfl | hm
      · have hx : KC l x (lowK c) ∨ KC l x (uppK c) := by
          rcases ht with ⟨rfl, _⟩ | ⟨rfl, _⟩
          · exact .inl .refl
          · exact .inr .refl
        have hw : KC l w (lowK c) ∨ KC l w (uppK c) := by
          rcases ht with ⟨_, rfl⟩ | ⟨_, rfl⟩
          · exact .inr .refl
          · exact .inl .refl
        rcases ih with ih | ⟨ih, _⟩
        · exact .inr ⟨hx.imp ih.trans ih.trans, hw⟩
        · exact .inr ⟨ih, hw⟩
      · rcases ih with ih | ⟨ih1, ih2⟩
        · exact .inl (ih.step hm ht)
        · have hwx : KC l w x := KC.step .refl hm ht.symm
          exact .inr ⟨ih1, ih2.imp hwx.trans hwx.trans⟩
  · rintro (h | ⟨h1, h2⟩)
    · exact h.mono fun c hc => by simp [hc]
    · have m : ∀ {u v : Knot}, KC l u v → KC (b :: l) u v := fun h => h.mono fun c hc => by simp [hc]
      have hb : KC (b :: l) (lowK b) (uppK b) := KC.bar (by simp)
      have h1' : KC (b :: l) u (lowK b) := h1.elim m fun h => (m h).trans hb.symm
      have h2' : KC (b :: l) v (lowK b) := h2.elim m fun h => (m h).trans hb.symm
      exact h1'.trans h2'.symm
/-- a labelling tells which knots are connected -/
def Lab (l : List Bar) (f : Knot → Knot) : Prop := ∀ u v, f u = f v ↔ KC l u v
theorem Lab.nil_ : Lab [] id := fun u v => ⟨fun h => by cases h; exact .refl, fun h => h.nil_⟩
theorem Lab.congr {l l' : List Bar} {f : Knot → Knot} (h : Lab l f) (hs : ∀ b, b ∈ l ↔ b ∈ l') : Lab l' f := fun u v =>
  (h u v).trans ⟨fun h => h.mono fun b hb => (hs b).1 hb, fun h => h.mono fun b hb => (hs b).2 hb⟩
/-- a labelling with one bar more -/
def mrgF (f : Knot → Knot) (b : Bar) (k : Knot) : Knot := if f k = f (uppK b) then f (lowK b) else f k
theorem mrgF_eq (f : Knot → Knot) (b : Bar) (u v : Knot) : mrgF f b u = mrgF f b v ↔ f u = f v ∨ (f u = f (lowK b) ∨ f u = f (uppK b)) ∧ (f v = f (lowK b) ∨ f v = f (uppK b)) := by
  unfold mrgF
  by_cases h1 : f u = f (uppK b) <;> by_cases h2 : f v = f (uppK b)
  · simp [h1, h2]
  · simp only [if_neg h2, h1]
    constructor
    · intro h; exact .inr ⟨.inr trivial, .inl h.symm⟩
    · rintro (h | ⟨_, h | h⟩)
      · exact absurd h.symm h2
      · exact h.symm
      · exact absurd h h2
  · simp only [if_neg h1, h2]
    constructor
    · intro h; exact .inr ⟨.inl h, .inr trivial⟩
    · rintro (h | ⟨h | h, _⟩)
      · exact absurd h h1
      · exact h
      · exact absurd h h1
  · simp only [if_neg h1, if_neg h2]
    constructor
    · exact .inl
    · rintro (h | ⟨h | h, h' | h'⟩)
      · exact h
      · rw [h, h']
      · exact absurd h' h2
      · exact absurd h h1
      · exact absurd h h1
theorem Lab.cons_ {l : List Bar} {f : Knot → Knot} (h : Lab l f) (b : Bar) : Lab (b :: l) (mrgF f b) := fun u v => by
  rw [mrgF_eq, KC.cons_iff, h u v, h u, h u, h v, h v]
theorem lab_ex : ∀ l : List Bar, ∃ f, Lab l f
  | [] => ⟨_, Lab.nil_⟩
  | b :: l => by
    obtain ⟨f, hf⟩ := lab_ex l
    exact ⟨_, hf.cons_ b⟩
/-- how many labels a list has -/
def nL {α : Type} (f : α → Knot) : List α → Nat
  | [] => 0
  | w :: W => nL f W + if f w ∈ W.map f then 0 else 1
theorem nL_congr {α : Type} {f g : α → Knot} : ∀ {W : List α}, (∀ u ∈ W, ∀ v ∈ W, (f u = f v ↔ g u = g v)) → nL f W = nL g W
  | [], _ => rfl
  | w :: W, h => by
    rw [nL, nL, nL_congr (W := W) fun u hu v hv => h u (by simp [hu]) v (by simp [hv])]
    have : f w ∈ W.map f ↔ g w ∈ W.map g := by
      simp only [List.mem_map]
      constructor
      · rintro ⟨x, hx, e⟩; exact ⟨x, hx, (h x (by simp [hx]) w (by simp)).1 e⟩
      · rintro ⟨x, hx, e⟩; exact ⟨x, hx, (h x (by simp [hx]) w (by simp)).2 e⟩
    simp only [this]
theorem nL_len {α : Type} {f : α → Knot} : ∀ {W : List α} {L : List Knot}, L.Nodup → (∀ x, x ∈ L ↔ x ∈ W.map f) → L.length = nL f W
  | [], L, _, h => by
    cases L with
    | nil => rfl
    | cons a r => have := (h a).1 (by simp); simp at this
  | w :: W, L, hn, h => by
    rw [nL]
    by_cases hm : f w ∈ W.map f
    · rw [if_pos hm, Nat.add_zero]
      refine nL_len hn fun x => ?_
      rw [h x, List.map_cons, List.mem_cons]
      exact ⟨fun h => h.elim (fun e => e ▸ hm) id, .inr⟩
    · rw [if_neg hm]
      have hw : f w ∈ L := (h _).2 (by simp)
      have := nL_len (W := W) (L := L.erase (f w)) (hn.erase _) fun x => by
        rw [hn.mem_erase_iff, h x, List.map_cons, List.mem_cons]
        constructor
        · rintro ⟨h1, h2⟩; exact h2.resolve_left h1
        · intro hx; exact ⟨fun e => hm (e ▸ hx), .inr hx⟩
      rw [← this, List.length_erase_of_mem hw]
      have := List.length_pos_of_mem hw
      omega
theorem foldK_mem (k : Knot) : ∀ (m o : List Knot), k ∈ m.foldl insK o ↔ k ∈ o ∨ k ∈ m
  | [], o => by simp
  | a :: m, o => by
    rw [List.foldl_cons, foldK_mem k m, insK_mem, List.mem_cons]
    constructor
    · rintro ((h | h) | h)
      · exact .inr (.inl h)
      · exact .inl h
      · exact .inr (.inr h)
    · rintro (h | h | h)
      · exact .inl (.inr h)
      · exact .inl (.inl h)
      · exact .inr h
theorem foldK_sorted : ∀ (m o : List Knot), o.Pairwise kltP → (m.foldl insK o).Pairwise kltP
  | [], _, h => h
  | a :: m, _, h => foldK_sorted m _ (insK_sorted a h)
/-- each once -/
def dedK (m : List Knot) : List Knot := m.foldl insK []
theorem dedK_mem (m : List Knot) (k : Knot) : k ∈ dedK m ↔ k ∈ m := by unfold dedK; rw [foldK_mem]; simp
theorem dedK_nodup (m : List Knot) : (dedK m).Nodup := sortedK_nodup (foldK_sorted m [] List.Pairwise.nil)
theorem nL_ded {α : Type} (f : α → Knot) (W : List α) : nL f W = (dedK (W.map f)).length := (nL_len (dedK_nodup _) fun x => dedK_mem _ x).symm
theorem nL_set {α β : Type} {f : α → Knot} {g : β → Knot} {W : List α} {V : List β} (h : ∀ x, x ∈ W.map f ↔ x ∈ V.map g) : nL f W = nL g V := by
  rw [nL_ded]
  exact nL_len (dedK_nodup _) fun x => (dedK_mem _ x).trans (h x)
/-- one bar more: one label less, or as many -/
theorem nL_mrg {f : Knot → Knot} {b : Bar} {W : List Knot} (hu : lowK b ∈ W) (hv : uppK b ∈ W) : nL f W = nL (mrgF f b) W + if f (lowK b) = f (uppK b) then 0 else 1 := by
  by_cases h : f (lowK b) = f (uppK b)
  · rw [if_pos h, Nat.add_zero]
    refine nL_congr fun x _ y _ => ?_
    rw [mrgF_eq, h]
    constructor
    · exact .inl
    · rintro (h | ⟨h1 | h1, h2 | h2⟩)
      · exact h
      all_goals rw [h1, h2]
  · rw [if_neg h, nL_ded f W]
    have hm : f (uppK b) ∈ dedK (W.map f) := (dedK_mem _ _).2 (List.mem_map.2 ⟨_, hv, rfl⟩)
    have := nL_len (f := mrgF f b) (W := W) (L := (dedK (W.map f)).erase (f (uppK b))) ((dedK_nodup _).erase _) fun x => by
      rw [(dedK_nodup _).mem_erase_iff, dedK_mem, List.mem_map, List.mem_map]
      constructor
      · rintro ⟨h1, w, hw, rfl⟩
        exact ⟨w, hw, by unfold mrgF; rw [if_neg h1]⟩
      · rintro ⟨w, hw, rfl⟩
        unfold mrgF
        split
        · exact ⟨h, _, hu, rfl⟩
        · rename_i h1; exact ⟨h1, w, hw, rfl⟩
    rw [← this, List.length_erase_of_mem hm]
    have := List.length_pos_of_mem hm
    omega
/-! ## parts and labels -/
theorem conn_kc {l : List Bar} {a b : Bar} (ha : a ∈ l) (hb : b ∈ l) : Conn l a b ↔ KC l (lowK a) (lowK b) := by
  constructor
  · intro h
    clear hb
    induction h with
    | refl => exact .refl
    | step hab hm ht ih =>
      rename_i c d
      have hc := hab.mem ha
      have e1 : KC l (lowK c) (uppK c) := KC.bar hc
      have e2 : KC l (lowK d) (uppK d) := KC.bar hm
      rcases ht with h | h | h | h
      · exact ih.trans (by rw [h]; exact .refl)
      · exact ih.trans (by rw [h]; exact e2.symm)
      · exact (ih.trans e1).trans (by rw [h]; exact .refl)
      · exact (ih.trans e1).trans (by rw [h]; exact e2.symm)
  · have key : ∀ v, KC l (lowK a) v → ∀ c ∈ l, (v = lowK c ∨ v = uppK c) → Conn l a c := fun v h => by
      induction h with
      | refl => exact fun c hc e => Conn.step .refl hc (e.elim .inl fun e => .inr (.inl e))
      | step hv hm ht ih =>
        rename_i x w d
        intro c hc e
        have hd : Conn l a d := ih d hm (by rcases ht with ⟨h, _⟩ | ⟨h, _⟩; exact .inl h; exact .inr h)
        refine hd.step hc ?_
        rcases ht with ⟨_, h⟩ | ⟨_, h⟩
        · rcases e with e | e
          · exact .inr (.inr (.inl (h ▸ e)))
          · exact .inr (.inr (.inr (h ▸ e)))
        · rcases e with e | e
          · exact .inl (h ▸ e)
          · exact .inr (.inl (h ▸ e))
    exact fun h => key _ h b hb (.inl rfl)
theorem prtC_len {l : List Bar} {f : Knot → Knot} (hf : Lab l f) : ∀ k, k ≤ l.length → (prtC l k).length = nL (fun b => f (lowK b)) (l.take k).reverse
  | 0, _ => by simp [prtC, nL]
  | k + 1, hk => by
    have hlt : k < l.length := by omega
    have ih := prtC_len hf k (by omega)
    rw [prtC_succ hlt, ← List.take_append_getElem hlt, List.reverse_append, List.reverse_singleton, List.singleton_append, nL]
    have hm : l[k] ∈ (prtC l k).flatten ↔ f (lowK l[k]) ∈ (l.take k).reverse.map fun b => f (lowK b) := by
      rw [prtC_flat l k (by omega), List.mem_map]
      constructor
      · rintro ⟨j, hj, hjk, hc⟩
        refine ⟨l[j], List.mem_reverse.2 (List.mem_take_iff_getElem.2 ⟨j, by omega, rfl⟩), ?_⟩
        exact (hf _ _).2 ((conn_kc (List.getElem_mem hj) (List.getElem_mem hlt)).1 hc)
      · rintro ⟨b, hb, e⟩
        obtain ⟨j, hj, rfl⟩ := List.mem_take_iff_getElem.1 (List.mem_reverse.1 hb)
        have hj' : j < l.length := by omega
        exact ⟨j, hj', by omega, (conn_kc (List.getElem_mem hj') (List.getElem_mem hlt)).2 ((hf _ _).1 e)⟩
    by_cases h : l[k] ∈ (prtC l k).flatten
    · rw [if_pos h, if_pos (hm.1 h), ih, Nat.add_zero]
    · rw [if_neg h, if_neg (fun e => h (hm.2 e)), List.length_append, ih]; rfl
theorem holeK_ends (l : List Bar) (k : Knot) : k ∈ holeK l ↔ ∃ b ∈ l, k = lowK b ∨ k = uppK b := by
  unfold holeK; rw [holeIn_mem]; simp
theorem parts_len {l : List Bar} {f : Knot → Knot} (hf : Lab l f) : (prtC l l.length).length = nL f (holeK l) := by
  rw [prtC_len hf _ (Nat.le_refl _), List.take_length]
  refine nL_set fun x => ?_
  simp only [List.mem_map, List.mem_reverse, holeK_ends]
  constructor
  · rintro ⟨b, hb, rfl⟩; exact ⟨_, ⟨b, hb, .inl rfl⟩, rfl⟩
  · rintro ⟨k, ⟨b, hb, rfl | rfl⟩, rfl⟩
    · exact ⟨b, hb, rfl⟩
    · exact ⟨b, hb, (hf _ _).2 (KC.bar hb)⟩
/-- knots beside a net are labels of their own -/
theorem nL_more {l : List Bar} {f : Knot → Knot} (hf : Lab l f) {W : List Knot} (hW : W.Nodup) (hs : ∀ k ∈ holeK l, k ∈ W) : nL f W + (holeK l).length = nL f (holeK l) + W.length := by
  have hlen : W.length = (holeK l).length + (W.filter fun k => decide (k ∉ holeK l)).length := by
    have h1 : (W.filter fun k => decide (k ∈ holeK l)).length = (holeK l).length := by
      refine Nat.le_antisymm (length_le_of_sub (hW.filter _) fun x hx => ?_) (length_le_of_sub (sortedK_nodup (holeK_sorted l)) fun x hx => ?_)
      · simpa using (List.mem_filter.1 hx).2
      · exact List.mem_filter.2 ⟨hs x hx, by simpa using hx⟩
    have h2 := split_len (fun k => decide (k ∈ holeK l)) W
    rw [h2, h1]
    congr 2
    exact List.filter_congr fun k _ => by simp
  have := nL_len (f := f) (W := W) (L := dedK ((holeK l).map f) ++ (W.filter fun k => decide (k ∉ holeK l)).map f) (by
    rw [List.nodup_append]
    refine ⟨dedK_nodup _, ?_, ?_⟩
    · refine nodup_map (hW.filter _) fun a _ b hb e => Decidable.byContradiction fun hne => ?_
      have hb' := (List.mem_filter.1 hb).2
      exact absurd (((hf _ _).1 e).ends hne) (by simpa using hb')
    · intro x hx y hy e
      rw [dedK_mem, List.mem_map] at hx
      obtain ⟨k, hk, rfl⟩ := hx
      obtain ⟨k', hk', rfl⟩ := List.mem_map.1 hy
      have hk2 := (List.mem_filter.1 hk').2
      refine absurd (((hf _ _).1 e).ends fun e' => ?_) (by simpa using hk2)
      subst e'
      exact absurd hk (by simpa using hk2)) fun x => by
    rw [List.mem_append, dedK_mem]
    simp only [List.mem_map]
    constructor
    · rintro (⟨k, hk, rfl⟩ | ⟨k, hk, rfl⟩)
      · exact ⟨k, hs k hk, rfl⟩
      · exact ⟨k, (List.mem_filter.1 hk).1, rfl⟩
    · rintro ⟨k, hk, rfl⟩
      by_cases h : k ∈ holeK l
      · exact .inl ⟨k, h, rfl⟩
      · exact .inr ⟨k, List.mem_filter.2 ⟨hk, by simpa using h⟩, rfl⟩
  rw [List.length_append, List.length_map, ← nL_ded] at this
  omega
end Go.Proofs.YtpompeancmonbaaGreat

/- The cycles of a net, plain. Conditions: the net is in its order. -/
namespace Go.Proofs.YtpompeancmonbaaGreat
open Go.RowKit Go.ChangeMaps
set_option maxHeartbeats 4000000
set_option maxRecDepth 100000

/-- the cycles of a net: bars less knots, and parts -/
noncomputable def cyc (l : List Bar) : Int := (l.length : Int) - (holeK l).length + (prtC l l.length).length
theorem cyc_eq {l : List Bar} {f : Knot → Knot} (hf : Lab l f) {W : List Knot} (hW : W.Nodup) (hs : ∀ k ∈ holeK l, k ∈ W) : cyc l = (l.length : Int) - W.length + nL f W := by
  have h1 := nL_more hf hW hs
  unfold cyc
  rw [parts_len hf]
  omega
theorem up_ne_low {b : Bar} : lowK b ≠ uppK b := fun e => by
  have : b.2.1 = b.2.1 + 1 := congrArg Prod.snd e
  omega
/-- one bar more: one cycle more, or none; where one, as many knots and parts -/
theorem cyc_more {l r : List Bar} {b : Bar} (hl : l.length = r.length + 1) (hm : ∀ x, x ∈ l ↔ x = b ∨ x ∈ r) : cyc l = cyc r ∨ cyc l = cyc r + 1 ∧ (holeK l).length = (holeK r).length ∧ (prtC l l.length).length = (prtC r r.length).length := by
  obtain ⟨f, hf⟩ := lab_ex r
  have hf' : Lab l (mrgF f b) := (hf.cons_ b).congr fun x => by rw [hm, List.mem_cons]
  have hW := sortedK_nodup (holeK_sorted l)
  have hb : b ∈ l := (hm b).2 (.inl rfl)
  have hu : lowK b ∈ holeK l := (holeK_ends l _).2 ⟨b, hb, .inl rfl⟩
  have hv : uppK b ∈ holeK l := (holeK_ends l _).2 ⟨b, hb, .inr rfl⟩
  have hsub : ∀ k ∈ holeK r, k ∈ holeK l := fun k hk => by
    rw [holeK_ends] at hk ⊢
    obtain ⟨c, hc, h⟩ := hk
    exact ⟨c, (hm c).2 (.inr hc), h⟩
  have e1 := cyc_eq hf hW hsub
  have e2 := cyc_eq hf' hW fun k hk => hk
  have e3 := nL_mrg (f := f) hu hv
  by_cases h : f (lowK b) = f (uppK b)
  · rw [if_pos h] at e3
    refine .inr ⟨by omega, ?_⟩
    have hk : KC r (lowK b) (uppK b) := (hf _ _).1 h
    have hu' : uppK b ∈ holeK r := hk.ends up_ne_low
    have hl' : lowK b ∈ holeK r := hk.symm.ends up_ne_low.symm
    have hK : holeK l = holeK r := sortedK_eq (holeK_sorted l) (holeK_sorted r) fun k => by
      refine ⟨fun hk => ?_, hsub k⟩
      obtain ⟨c, hc, hce⟩ := (holeK_ends l k).1 hk
      rcases (hm c).1 hc with hcb | hc
      · subst hcb
        rcases hce with hce | hce
        · rw [hce]; exact hl'
        · rw [hce]; exact hu'
      · exact (holeK_ends r k).2 ⟨c, hc, hce⟩
    refine ⟨by rw [hK], ?_⟩
    rw [parts_len hf, parts_len hf', ← hK]
    omega
  · rw [if_neg h] at e3
    exact .inl (by omega)
/-- the last bar of a mesh, if the mesh is there -/
def topM (l : List Bar) (b : Bar) : Bool := decide (b.2.2 = -1) && hasb l (b.1 - 1, b.2.1 - 1, -1) && hasb l (b.1 - 1, b.2.1 - 1, 1) && hasb l (b.1 - 2, b.2.1, 1)
theorem topM_iff (l : List Bar) (b : Bar) : topM l b = true ↔ b.2.2 = -1 ∧ (b.1 - 1, b.2.1 - 1, (-1 : Int)) ∈ l ∧ (b.1 - 1, b.2.1 - 1, (1 : Int)) ∈ l ∧ (b.1 - 2, b.2.1, (1 : Int)) ∈ l := by
  unfold topM hasb
  simp only [Bool.and_eq_true, decide_eq_true_eq, and_assoc]
theorem isMesh_iff (l : List Bar) (b : Bar) : isMesh l b = true ↔ b.2.2 = -1 ∧ (b.1, b.2.1, (1 : Int)) ∈ l ∧ (b.1 - 1, b.2.1 + 1, (1 : Int)) ∈ l ∧ (b.1 + 1, b.2.1 + 1, (-1 : Int)) ∈ l := by
  unfold isMesh hasb
  simp only [Bool.and_eq_true, decide_eq_true_eq, and_assoc]
theorem mesh_top {l : List Bar} (hn : l.Nodup) : (l.filter (isMesh l)).length = (l.filter (topM l)).length := by
  have up : ((l.filter (isMesh l)).map fun b => ((b.1 + 1, b.2.1 + 1, -1) : Bar)).length ≤ (l.filter (topM l)).length := by
    refine length_le_of_sub (nodup_map (hn.filter _) fun a ha b hb e => ?_) fun x hx => ?_
    · have h1 := ((isMesh_iff l a).1 (List.mem_filter.1 ha).2).1
      have h2 := ((isMesh_iff l b).1 (List.mem_filter.1 hb).2).1
      obtain ⟨x, y, s⟩ := a
      obtain ⟨x', y', s'⟩ := b
      simp only [Prod.mk.injEq] at *
      omega
    · obtain ⟨a, ha, rfl⟩ := List.mem_map.1 hx
      obtain ⟨ha, hm⟩ := List.mem_filter.1 ha
      obtain ⟨h1, h2, h3, h4⟩ := (isMesh_iff l a).1 hm
      obtain ⟨x, y, s⟩ := a
      simp only at h1 h2 h3 h4
      subst h1
      refine List.mem_filter.2 ⟨h4, (topM_iff l _).2 ⟨rfl, ?_, ?_, ?_⟩⟩
      · simpa [Int.add_sub_cancel] using ha
      · simpa [Int.add_sub_cancel] using h2
      · rw [show x + 1 - 2 = x - 1 by omega]; exact h3
  have down : ((l.filter (topM l)).map fun b => ((b.1 - 1, b.2.1 - 1, -1) : Bar)).length ≤ (l.filter (isMesh l)).length := by
    refine length_le_of_sub (nodup_map (hn.filter _) fun a ha b hb e => ?_) fun x hx => ?_
    · have h1 := ((topM_iff l a).1 (List.mem_filter.1 ha).2).1
      have h2 := ((topM_iff l b).1 (List.mem_filter.1 hb).2).1
      obtain ⟨x, y, s⟩ := a
      obtain ⟨x', y', s'⟩ := b
      simp only [Prod.mk.injEq] at *
      omega
    · obtain ⟨a, ha, rfl⟩ := List.mem_map.1 hx
      obtain ⟨ha, hm⟩ := List.mem_filter.1 ha
      obtain ⟨h1, h2, h3, h4⟩ := (topM_iff l a).1 hm
      obtain ⟨x, y, s⟩ := a
      simp only at h1 h2 h3 h4
      subst h1
      refine List.mem_filter.2 ⟨h2, (isMesh_iff l _).2 ⟨rfl, h3, ?_, ?_⟩⟩
      · rw [show x - 1 - 1 = x - 2 by omega, show y - 1 + 1 = y by omega]; exact h4
      · rw [show x - 1 + 1 = x by omega, show y - 1 + 1 = y by omega]; exact ha
  rw [List.length_map] at up down
  omega
/-- each mesh closes a cycle: no net has fewer cycles than meshes -/
theorem mesh_le {l : List Bar} (hs : l.Pairwise bltP) : ((l.filter (isMesh l)).length : Int) ≤ cyc l := by
  have hn := sortedB_nodup hs
  rw [mesh_top hn]
  have hW := sortedK_nodup (holeK_sorted l)
  have key : ∀ k, k ≤ l.length → ∃ f, Lab (l.take k) f ∧ (((l.take k).filter (topM l)).length : Int) ≤ (k : Int) - (holeK l).length + nL f (holeK l) := fun k => by
    induction k with
    | zero =>
      intro _
      refine ⟨id, Lab.nil_, ?_⟩
      have : nL id (holeK l) = (holeK l).length := (nL_len hW fun x => by simp).symm
      rw [this]
      simp
      omega
    | succ k ih =>
      intro hk
      have hlt : k < l.length := by omega
      obtain ⟨f, hf, hle⟩ := ih (by omega)
      have hb : l[k] ∈ l := List.getElem_mem hlt
      have hu : lowK l[k] ∈ holeK l := (holeK_ends l _).2 ⟨_, hb, .inl rfl⟩
      have hv : uppK l[k] ∈ holeK l := (holeK_ends l _).2 ⟨_, hb, .inr rfl⟩
      have e3 := nL_mrg (f := f) hu hv
      refine ⟨mrgF f l[k], (hf.cons_ l[k]).congr fun x => ?_, ?_⟩
      · rw [← List.take_append_getElem hlt, List.mem_append, List.mem_cons, List.mem_singleton]; exact or_comm
      · rw [← List.take_append_getElem hlt, List.filter_append, List.length_append]
        by_cases ht : topM l l[k] = true
        · have hc : f (lowK l[k]) = f (uppK l[k]) := by
            obtain ⟨h1, h2, h3, h4⟩ := (topM_iff l l[k]).1 ht
            have before : ∀ c ∈ l, bltP c l[k] → c ∈ l.take k := fun c hc hlt' => by
              obtain ⟨j, hj, rfl⟩ := List.getElem_of_mem hc
              refine List.mem_take_iff_getElem.2 ⟨j, ?_, rfl⟩
              have : j < k := by
                rcases Nat.lt_trichotomy j k with h | h | h
                · exact h
                · subst h; exact absurd hlt' (bltP_irrefl _)
                · have := List.pairwise_iff_getElem.1 hs k j hlt hj h
                  exact absurd (bltP_trans this hlt') (bltP_irrefl _)
              omega
            obtain ⟨⟨x, y, s⟩, hx⟩ : ∃ z, l[k] = z := ⟨_, rfl⟩
            rw [hx] at h1 h2 h3 h4 before ⊢
            simp only at h1 h2 h3 h4
            subst h1
            have m2 := before _ h2 ((bltP_iff _ _).2 (by simp only; omega))
            have m3 := before _ h3 ((bltP_iff _ _).2 (by simp only; omega))
            have m4 := before _ h4 ((bltP_iff _ _).2 (.inr ⟨rfl, .inl (show x - 2 < x by omega)⟩))
            have c2 := KC.bar m2
            have c3 := KC.bar m3
            have c4 := KC.bar m4
            unfold lowK uppK at c2 c3 c4
            simp only at c2 c3 c4
            rw [show x - 1 + -1 = x - 2 by omega, show y - 1 + 1 = y by omega] at c2
            rw [show x - 1 + 1 = x by omega, show y - 1 + 1 = y by omega] at c3
            rw [show x - 2 + 1 = x - 1 by omega] at c4
            refine (hf _ _).2 ?_
            unfold lowK uppK
            simp only
            rw [show x + -1 = x - 1 by omega]
            exact (c3.symm.trans c2).trans c4
          rw [if_pos hc] at e3
          rw [List.filter_cons_of_pos (by simpa using ht)]
          simp only [List.filter_nil, List.length_singleton]
          omega
        · rw [List.filter_cons_of_neg (by simpa using ht)]
          simp only [List.filter_nil, List.length_nil]
          split at e3 <;> omega
  obtain ⟨f, hf, hle⟩ := key l.length (Nat.le_refl _)
  rw [List.take_length] at hf hle
  rw [cyc_eq hf hW fun k hk => hk]
  exact hle
end Go.Proofs.YtpompeancmonbaaGreat

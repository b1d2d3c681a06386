/- Parts and labels of knots, plain. Conditions: none. -/
import Derived.Test.YtkmjcoofkgpanaaGreatDoorB21
import Derived.Test.YtkmjcoofkgpanaaGreatDoorPmcJ
import Derived.Test.YtkmjcoofkgpanaaGreatDoorB09
import Derived.Test.YtkmjcoofkgpanaaGreatDoorPmbJ
namespace Go.Proofs.YtkmjcoofkgpanaaGreatDoor
open Go.RowKit Go.ChangeMaps
set_option maxHeartbeats 4000000
set_option maxRecDepth 100000

/-- a bar leads from one knot to the other -/
def Leads (b : Bar) (u v : Knot) : Prop := u = lowK b ∧ v = uppK b ∨ u = uppK b ∧ v = lowK b
theorem Leads.symm {b : Bar} {u v : Knot} (h : Leads b u v) : Leads b v u := by
  rcases h with ⟨h1, h2⟩ | ⟨h1, h2⟩
  · exact .inr ⟨h2, h1⟩
  · exact .inl ⟨h2, h1⟩
/-- the knots that are connected with a knot -/
inductive KC (l : List Bar) (u : Knot) : Knot → Prop
  | refl : KC l u u
  | step {v w : Knot} {b : Bar} : KC l u v → b ∈ l → Leads b v w → KC l u w
theorem KC.trans {l : List Bar} {u v w : Knot} (h : KC l u v) (h' : KC l v w) : KC l u w := by
  induction h' with
  | refl => exact h
  | step _ hm ht ih => exact ih.step hm ht
theorem KC.symm {l : List Bar} {u v : Knot} (h : KC l u v) : KC l v u := by
  induction h with
  | refl => exact .refl
  | step _ hm ht ih => exact (KC.step .refl hm ht.symm).trans ih
theorem KC.mono {l l' : List Bar} (hs : ∀ b ∈ l, b ∈ l') {u v : Knot} (h : KC l u v) : KC l' u v := by
  induction h with
  | refl => exact .refl
  | step _ hm ht ih => exact ih.step (hs _ hm) ht
theorem KC.bar {l : List Bar} {b : Bar} (h : b ∈ l) : KC l (lowK b) (uppK b) := KC.step .refl h (.inl ⟨rfl, rfl⟩)
theorem KC.nil_ {u v : Knot} (h : KC [] u v) : u = v := by
  induction h with
  | refl => rfl
  | step _ hm _ _ => simp at hm
theorem KC.ends {l : List Bar} {u v : Knot} (h : KC l u v) (hne : u ≠ v) : v ∈ holeK l := by
  cases h with
  | refl => exact absurd rfl hne
  | step _ hm ht =>
    rename_i b _
    refine (holeIn_mem _ l []).2 (.inr ⟨b, hm, ?_⟩)
    rcases ht with ⟨_, h⟩ | ⟨_, h⟩
    · exact .inr h
    · exact .inl h
theorem KC.cons_iff {l : List Bar} {b : Bar} {u v : Knot} : KC (b :: l) u v ↔ KC l u v ∨ (KC l u (lowK b) ∨ KC l u (uppK b)) ∧ (KC l v (lowK b) ∨ KC l v (uppK b)) := by
  constructor
  · intro h
    induction h with
    | refl => exact .inl .refl
    | step _ hm ht ih =>
      rename_i x w c _
      rcases List.mem_cons.1 hm with rfl | hm
      · have hx : KC l x (lowK c) ∨ KC l x (uppK c) := by
          rcases ht with ⟨rfl, _⟩ | ⟨rfl, _⟩
          · exact .inl .refl
          · exact .inr .refl
        have hw : KC l w (lowK c) ∨ KC l w (uppK c) := by
          rcases ht with ⟨_, rfl⟩ | ⟨_, rfl⟩
          · exact .inr .refl
          · exact .inl .refl
        rcases ih with ih | ⟨ih, _⟩
        · exact .inr ⟨hx.imp ih.trans ih.trans, hw⟩
        · exact .inr ⟨ih, hw⟩
      · rcases ih with ih | ⟨ih1, ih2⟩
        · exact .inl (ih.step hm ht)
        · have hwx : KC l w x := KC.step .refl hm ht.symm
          exact .inr ⟨ih1, ih2.imp hwx.trans hwx.trans⟩
  · rintro (h | ⟨h1, h2⟩)
    · exact h.mono fun c hc => by simp [hc]
    · have m : ∀ {u v : Knot}, KC l u v → KC (b :: l) u v := fun h => h.mono fun c hc => by simp [hc]
      have hb : KC (b :: l) (lowK b) (uppK b) := KC.bar (by simp)
      have h1' : KC (b :: l) u (lowK b) := h1.elim m fun h => (m h).trans hb.symm
      have h2' : KC (b :: l) v (lowK b) := h2.elim m fun h => (m h).trans hb.symm
      exact h1'.trans h2'.symm
/-- a labelling tells which knots are connected -/
def Lab (l : List Bar) (f : Knot → Knot) : Prop := ∀ u v, f u = f v ↔ KC l u v
theorem Lab.nil_ : Lab [] id := fun u v => ⟨fun h => by cases h; exact .refl, fun h => h.nil_⟩
theorem Lab.congr {l l' : List Bar} {f : Knot → Knot} (h : Lab l f) (hs : ∀ b, b ∈ l ↔ b ∈ l') : Lab l' f := fun u v =>
  (h u v).trans ⟨fun h => h.mono fun b hb => (hs b).1 hb, fun h => h.mono fun b hb => (hs b).2 hb⟩
/-- a labelling with one bar more -/
def mrgF (f : Knot → Knot) (b : Bar) (k : Knot) : Knot := if f k = f (uppK b) then f (lowK b) else f k
theorem mrgF_eq (f : Knot → Knot) (b : Bar) (u v : Knot) : mrgF f b u = mrgF f b v ↔ f u = f v ∨ (f u = f (lowK b) ∨ f u = f (uppK b)) ∧ (f v = f (lowK b) ∨ f v = f (uppK b)) := by
  unfold mrgF
  by_cases h1 : f u = f (uppK b) <;> by_cases h2 : f v = f (uppK b)
  · simp [h1, h2]
  · simp only [if_neg h2, h1]
    constructor
    · intro h; exact .inr ⟨.inr trivial, .inl h.symm⟩
    · rintro (h | ⟨_, h | h⟩)
      · exact absurd h.symm h2
      · exact h.symm
      · exact absurd h h2
  · simp only [if_neg h1, h2]
    constructor
    · intro h; exact .inr ⟨.inl h, .inr trivial⟩
    · rintro (h | ⟨h | h, _⟩)
      · exact absurd h h1
      · exact h
      · exact absurd h h1
  · simp only [if_neg h1, if_neg h2]
    constructor
    · exact .inl
    · rintro (h | ⟨h | h, h' | h'⟩)
      · exact h
      · rw [h, h']
      · exact absurd h' h2
      · exact absurd h h1
      · exact absurd h h1
theorem Lab.cons_ {l : List Bar} {f : Knot → Knot} (h : Lab l f) (b : Bar) : Lab (b :: l) (mrgF f b) := fun u v => by
  rw [mrgF_eq, KC.cons_iff, h u v, h u, h u, h v, h v]
theorem lab_ex : ∀ l : List Bar, ∃ f, Lab l f
  | [] => ⟨_, Lab.nil_⟩
  | b :: l => by
    obtain ⟨f, hf⟩ := lab_ex l
    exact ⟨_, hf.cons_ b⟩
/-- how many labels a list has -/
def nL {α : Type} (f : α → Knot) : List α → Nat
  | [] => 0
  | w :: W => nL f W + if f w ∈ W.map f then 0 else 1
theorem nL_congr {α : Type} {f g : α → Knot} : ∀ {W : List α}, (∀ u ∈ W, ∀ v ∈ W, (f u = f v ↔ g u = g v)) → nL f W = nL g W
  | [], _ => rfl
  | w :: W, h => by
    rw [nL, nL, nL_congr (W := W) fun u hu v hv => h u (by simp [hu]) v (by simp [hv])]
    have : f w ∈ W.map f ↔ g w ∈ W.map g := by
      simp only [List.mem_map]
      constructor
      · rintro ⟨x, hx, e⟩; exact ⟨x, hx, (h x (by simp [hx]) w (by simp)).1 e⟩
      · rintro ⟨x, hx, e⟩; exact ⟨x, hx, (h x (by simp [hx]) w (by simp)).2 e⟩
    simp only [this]
theorem nL_len {α : Type} {f : α → Knot} : ∀ {W : List α} {L : List Knot}, L.Nodup → (∀ x, x ∈ L ↔ x ∈ W.map f) → L.length = nL f W
  | [], L, _, h => by
    cases L with
    | nil => rfl
    | cons a r => have := (h a).1 (by simp); simp at this
  | w :: W, L, hn, h => by
    rw [nL]
    by_cases hm : f w ∈ W.map f
    · rw [if_pos hm, Nat.add_zero]
      refine nL_len hn fun x => ?_
      rw [h x, List.map_cons, List.mem_cons]
      exact ⟨fun h => h.elim (fun e => e ▸ hm) id, .inr⟩
    · rw [if_neg hm]
      have hw : f w ∈ L := (h _).2 (by simp)
      have := nL_len (W := W) (L := L.erase (f w)) (hn.erase _) fun x => by
        rw [hn.mem_erase_iff, h x, List.map_cons, List.mem_cons]
        constructor
        · rintro ⟨h1, h2⟩; exact h2.resolve_left h1
        · intro hx; exact ⟨fun e => hm (e ▸ hx), .inr hx⟩
      rw [← this, List.length_erase_of_mem hw]
      have := List.length_pos_of_mem hw
      omega
theorem foldK_mem (k : Knot) : ∀ (m o : List Knot), k ∈ m.foldl insK o ↔ k ∈ o ∨ k ∈ m
  | [], o => by simp
  | a :: m, o => by
    rw [List.foldl_cons, foldK_mem k m, insK_mem, List.mem_cons]
    constructor
    · rintro ((h | h) | h)
      · exact .inr (.inl h)
      · exact .inl h
      · exact .inr (.inr h)
    · rintro (h | h | h)
      · exact .inl (.inr h)
      · exact .inl (.inl h)
      · exact .inr h
theorem foldK_sorted : ∀ (m o : List Knot), o.Pairwise kltP → (m.foldl insK o).Pairwise kltP
  | [], _, h => h
  | a :: m, _, h => foldK_sorted m _ (insK_sorted a h)
/-- each once -/
def dedK (m : List Knot) : List Knot := m.foldl insK []
theorem dedK_mem (m : List Knot) (k : Knot) : k ∈ dedK m ↔ k ∈ m := by unfold dedK; rw [foldK_mem]; simp
theorem dedK_nodup (m : List Knot) : (dedK m).Nodup := sortedK_nodup (foldK_sorted m [] List.Pairwise.nil)
theorem nL_ded {α : Type} (f : α → Knot) (W : List α) : nL f W = (dedK (W.map f)).length := (nL_len (dedK_nodup _) fun x => dedK_mem _ x).symm
theorem nL_set {α β : Type} {f : α → Knot} {g : β → Knot} {W : List α} {V : List β} (h : ∀ x, x ∈ W.map f ↔ x ∈ V.map g) : nL f W = nL g V := by
  rw [nL_ded]
  exact nL_len (dedK_nodup _) fun x => (dedK_mem _ x).trans (h x)
/-- one bar more: one label less, or as many -/
theorem nL_mrg {f : Knot → Knot} {b : Bar} {W : List Knot} (hu : lowK b ∈ W) (hv : uppK b ∈ W) : nL f W = nL (mrgF f b) W + if f (lowK b) = f (uppK b) then 0 else 1 := by
  by_cases h : f (lowK b) = f (uppK b)
  · rw [if_pos h, Nat.add_zero]
    refine nL_congr fun x _ y _ => ?_
    rw [mrgF_eq, h]
    constructor
    · exact .inl
    · rintro (h | ⟨h1 | h1, h2 | h2⟩)
      · exact h
      all_goals rw [h1, h2]
  · rw [if_neg h, nL_ded f W]
    have hm : f (uppK b) ∈ dedK (W.map f) := (dedK_mem _ _).2 (List.mem_map.2 ⟨_, hv, rfl⟩)
    have := nL_len (f := mrgF f b) (W := W) (L := (dedK (W.map f)).erase (f (uppK b))) ((dedK_nodup _).erase _) fun x => by
      rw [(dedK_nodup _).mem_erase_iff, dedK_mem, List.mem_map, List.mem_map]
      constructor
      · rintro ⟨h1, w, hw, rfl⟩
        exact ⟨w, hw, by unfold mrgF; rw [if_neg h1]⟩
      · rintro ⟨w, hw, rfl⟩
        unfold mrgF
        split
        · exact ⟨h, _, hu, rfl⟩
        · rename_i h1; exact ⟨h1, w, hw, rfl⟩
    rw [← this, List.length_erase_of_mem hm]
    have := List.length_pos_of_mem hm
    omega
/-! ## parts and labels -/
theorem conn_kc {l : List Bar} {a b : Bar} (ha : a ∈ l) (hb : b ∈ l) : Conn l a b ↔ KC l (lowK a) (lowK b) := by
  constructor
  · intro h
    clear hb
    induction h with
    | refl => exact .refl
    | step hab hm ht ih =>
      rename_i c d
      have hc := hab.mem ha
      have e1 : KC l (lowK c) (uppK c) := KC.bar hc
      have e2 : KC l (lowK d) (uppK d) := KC.bar hm
      rcases ht with h | h | h | h
      · exact ih.trans (by rw [h]; exact .refl)
      · exact ih.trans (by rw [h]; exact e2.symm)
      · exact (ih.trans e1).trans (by rw [h]; exact .refl)
      · exact (ih.trans e1).trans (by rw [h]; exact e2.symm)
  · have key : ∀ v, KC l (lowK a) v → ∀ c ∈ l, (v = lowK c ∨ v = uppK c) → Conn l a c := fun v h => by
      induction h with
      | refl => exact fun c hc e => Conn.step .refl hc (e.elim .inl fun e => .inr (.inl e))
      | step hv hm ht ih =>
        rename_i x w d
        intro c hc e
        have hd : Conn l a d := ih d hm (by rcases ht with ⟨h, _⟩ | ⟨h, _⟩; exact .inl h; exact .inr h)
        refine hd.step hc ?_
        rcases ht with ⟨_, h⟩ | ⟨_, h⟩
        · rcases e with e | e
          · exact .inr (.inr (.inl (h ▸ e)))
          · exact .inr (.inr (.inr (h ▸ e)))
        · rcases e with e | e
          · exact .inl (h ▸ e)
          · exact .inr (.inl (h ▸ e))
    exact fun h => key _ h b hb (.inl rfl)
theorem prtC_len {l : List Bar} {f : Knot → Knot} (hf : Lab l f) : ∀ k, k ≤ l.length → (prtC l k).length = nL (fun b => f (lowK b)) (l.take k).reverse
  | 0, _ => by simp [prtC, nL]
  | k + 1, hk => by
    have hlt : k < l.length := by omega
    have ih := prtC_len hf k (by omega)
    rw [prtC_succ hlt, ← List.take_append_getElem hlt, List.reverse_append, List.reverse_singleton, List.singleton_append, nL]
    have hm : l[k] ∈ (prtC l k).flatten ↔ f (lowK l[k]) ∈ (l.take k).reverse.map fun b => f (lowK b) := by
      rw [prtC_flat l k (by omega), List.mem_map]
      constructor
      · rintro ⟨j, hj, hjk, hc⟩
        refine ⟨l[j], List.mem_reverse.2 (List.mem_take_iff_getElem.2 ⟨j, by omega, rfl⟩), ?_⟩
        exact (hf _ _).2 ((conn_kc (List.getElem_mem hj) (List.getElem_mem hlt)).1 hc)
      · rintro ⟨b, hb, e⟩
        obtain ⟨j, hj, rfl⟩ := List.mem_take_iff_getElem.1 (List.mem_reverse.1 hb)
        have hj' : j < l.length := by omega
        exact ⟨j, hj', by omega, (conn_kc (List.getElem_mem hj') (List.getElem_mem hlt)).2 ((hf _ _).1 e)⟩
    by_cases h : l[k] ∈ (prtC l k).flatten
    · rw [if_pos h, if_pos (hm.1 h), ih, Nat.add_zero]
    · rw [if_neg h, if_neg (fun e => h (hm.2 e)), List.length_append, ih]; rfl
theorem holeK_ends (l : List Bar) (k : Knot) : k ∈ holeK l ↔ ∃ b ∈ l, k = lowK b ∨ k = uppK b := by
  unfold holeK; rw [holeIn_mem]; simp
theorem parts_len {l : List Bar} {f : Knot → Knot} (hf : Lab l f) : (prtC l l.length).length = nL f (holeK l) := by
  rw [prtC_len hf _ (Nat.le_refl _), List.take_length]
  refine nL_set fun x => ?_
  simp only [List.mem_map, List.mem_reverse, holeK_ends]
  constructor
  · rintro ⟨b, hb, rfl⟩; exact ⟨_, ⟨b, hb, .inl rfl⟩, rfl⟩
  · rintro ⟨k, ⟨b, hb, rfl | rfl⟩, rfl⟩
    · exact ⟨b, hb, rfl⟩
    · exact ⟨b, hb, (hf _ _).2 (KC.bar hb)⟩
/-- knots beside a net are labels of their own -/
theorem nL_more {l : List Bar} {f : Knot → Knot} (hf : Lab l f) {W : List Knot} (hW : W.Nodup) (hs : ∀ k ∈ holeK l, k ∈ W) : nL f W + (holeK l).length = nL f (holeK l) + W.length := by
  have hlen : W.length = (holeK l).length + (W.filter fun k => decide (k ∉ holeK l)).length := by
    have h1 : (W.filter fun k => decide (k ∈ holeK l)).length = (holeK l).length := by
      refine Nat.le_antisymm (length_le_of_sub (hW.filter _) fun x hx => ?_) (length_le_of_sub (sortedK_nodup (holeK_sorted l)) fun x hx => ?_)
      · simpa using (List.mem_filter.1 hx).2
      · exact List.mem_filter.2 ⟨hs x hx, by simpa using hx⟩
    have h2 := split_len (fun k => decide (k ∈ holeK l)) W
    rw [h2, h1]
    congr 2
    exact List.filter_congr fun k _ => by simp
  have := nL_len (f := f) (W := W) (L := dedK ((holeK l).map f) ++ (W.filter fun k => decide (k ∉ holeK l)).map f) (by
    rw [List.nodup_append]
    refine ⟨dedK_nodup _, ?_, ?_⟩
    · refine nodup_map (hW.filter _) fun a _ b hb e => Decidable.byContradiction fun hne => ?_
      have hb' := (List.mem_filter.1 hb).2
      exact absurd (((hf _ _).1 e).ends hne) (by simpa using hb')
    · intro x hx y hy e
      rw [dedK_mem, List.mem_map] at hx
      obtain ⟨k, hk, rfl⟩ := hx
      obtain ⟨k', hk', rfl⟩ := List.mem_map.1 hy
      have hk2 := (List.mem_filter.1 hk').2
      refine absurd (((hf _ _).1 e).ends fun e' => ?_) (by simpa using hk2)
      subst e'
      exact absurd hk (by simpa using hk2)) fun x => by
    rw [List.mem_append, dedK_mem]
    simp only [List.mem_map]
    constructor
    · rintro (⟨k, hk, rfl⟩ | ⟨k, hk, rfl⟩)
      · exact ⟨k, hs k hk, rfl⟩
      · exact ⟨k, (List.mem_filter.1 hk).1, rfl⟩
    · rintro ⟨k, hk, rfl⟩
      by_cases h : k ∈ holeK l
      · exact .inl ⟨k, h, rfl⟩
      · exact .inr ⟨k, List.mem_filter.2 ⟨hk, by simpa using h⟩, rfl⟩
  rw [List.length_append, List.length_map, ← nL_ded] at this
  omega
end Go.Proofs.YtkmjcoofkgpanaaGreatDoor

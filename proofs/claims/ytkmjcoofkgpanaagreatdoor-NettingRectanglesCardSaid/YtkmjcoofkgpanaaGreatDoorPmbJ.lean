/- Nets turned and mirrored, and the canonical form, plain. Conditions: the net is in its order. -/
import Derived.Test.YtkmjcoofkgpanaaGreatDoorB21
import Derived.Test.YtkmjcoofkgpanaaGreatDoorB12
namespace Go.Proofs.YtkmjcoofkgpanaaGreatDoor
open Go.RowKit Go.ChangeMaps
set_option maxHeartbeats 4000000
set_option maxRecDepth 100000

theorem mirB_mirB (b : Bar) : mirB (mirB b) = b := by obtain ⟨x, y, s⟩ := b; simp [mirB]
theorem mirB_inj {a b : Bar} (h : mirB a = mirB b) : a = b := by rw [← mirB_mirB a, h, mirB_mirB]
theorem turn_up (x y : Int) : turnB (x, y, 1) = (-y, x, -1) := by
  unfold turnB btwB; simp only; rw [if_neg (by omega)]; simp only [Prod.mk.injEq, true_and] <;> omega
theorem turn_dn (x y : Int) : turnB (x, y, -1) = (-y - 1, x - 1, 1) := by
  unfold turnB btwB; simp only; rw [if_pos (by omega)]; simp only [Prod.mk.injEq] <;> omega
theorem turnB_of {b : Bar} (h : Sided b) : turnB b = if b.2.2 = 1 then (-b.2.1, b.1, -1) else (-b.2.1 - 1, b.1 - 1, 1) := by
  obtain ⟨x, y, s⟩ := b
  unfold Sided at h
  simp only at h
  obtain rfl | rfl := h
  · rw [turn_up]; rfl
  · rw [turn_dn]; rfl
theorem turnB_sided {b : Bar} (h : Sided b) : Sided (turnB b) := by
  rw [turnB_of h]; unfold Sided; split <;> simp
theorem mirB_sided {b : Bar} (h : Sided b) : Sided (mirB b) := by
  obtain ⟨x, y, s⟩ := b
  unfold Sided mirB at *
  simp only at *
  omega
theorem turnB_two {b : Bar} (h : Sided b) : turnB (turnB b) = (-b.1 - b.2.2, -b.2.1 - 1, b.2.2) := by
  obtain ⟨x, y, s⟩ := b
  unfold Sided at h
  simp only at h
  obtain rfl | rfl := h
  · simp only [turn_up, turn_dn]
  · simp only [turn_up, turn_dn, Prod.mk.injEq, and_true]; omega
theorem turnB_four {b : Bar} (h : Sided b) : turnB (turnB (turnB (turnB b))) = b := by
  have h2 := turnB_sided (turnB_sided h)
  rw [turnB_two h2, turnB_two h]
  obtain ⟨x, y, s⟩ := b
  simp only [Prod.mk.injEq]
  exact ⟨by omega, by omega, trivial⟩
theorem turnB_inj {a b : Bar} (ha : Sided a) (hb : Sided b) (h : turnB a = turnB b) : a = b := by
  rw [← turnB_four ha, h, turnB_four hb]
theorem nodup_map {α β : Type} {f : α → β} {l : List α} (hn : l.Nodup) (hf : ∀ a ∈ l, ∀ b ∈ l, f a = f b → a = b) : (l.map f).Nodup := by
  rw [List.nodup_iff_pairwise_ne, List.pairwise_map]
  exact hn.imp_of_mem fun ha hb hne e => hne (hf _ ha _ hb e)
theorem split_len {α : Type} (p : α → Bool) : ∀ l : List α, l.length = (l.filter p).length + (l.filter fun b => !p b).length
  | [] => rfl
  | a :: l => by
    have := split_len p l
    cases h : p a <;> simp [h] <;> omega
theorem mirN_eq (l : List Bar) : mirN l = srtB (l.map mirB) := by
  unfold mirN
  congr 1
  exact List.map_congr_left fun b _ => mvB_mir
theorem turnN_eq (n : Nat) (l : List Bar) : turnN (n + 1) l = srtB ((turnN n l).map turnB) := rfl
theorem mirN_mem (l : List Bar) (b : Bar) : b ∈ mirN l ↔ mirB b ∈ l := by
  rw [mirN_eq, srtB_mem, List.mem_map]
  constructor
  · rintro ⟨c, hc, rfl⟩; rwa [mirB_mirB]
  · intro h; exact ⟨_, h, mirB_mirB b⟩
theorem mirN_set {l : List Bar} (hn : l.Nodup) : mirN l = setB (l.map mirB) := by
  rw [mirN_eq, setB_srt (nodup_map hn fun a _ b _ h => mirB_inj h)]
theorem mirN_sorted {l : List Bar} (hn : l.Nodup) : (mirN l).Pairwise bltP := by
  rw [mirN_eq]; exact srtB_sorted (nodup_map hn fun a _ b _ h => mirB_inj h)
theorem mirN_sided {l : List Bar} (h : ∀ b ∈ l, Sided b) : ∀ b ∈ mirN l, Sided b := fun b hb => by
  rw [mirN_mem] at hb
  rw [← mirB_mirB b]; exact mirB_sided (h _ hb)
theorem turnN_sided {l : List Bar} (h : ∀ b ∈ l, Sided b) : ∀ n, ∀ b ∈ turnN n l, Sided b
  | 0 => h
  | n + 1 => fun b hb => by
    rw [turnN_eq, srtB_mem, List.mem_map] at hb
    obtain ⟨c, hc, rfl⟩ := hb
    exact turnB_sided (turnN_sided h n c hc)
theorem turnN_nodup {l : List Bar} (hn : l.Nodup) (h : ∀ b ∈ l, Sided b) : ∀ n, (turnN n l).Nodup
  | 0 => hn
  | n + 1 => by
    rw [turnN_eq]
    exact sortedB_nodup (srtB_sorted (nodup_map (turnN_nodup hn h n) fun a ha b hb => turnB_inj (turnN_sided h n a ha) (turnN_sided h n b hb)))
theorem turnN_sorted {l : List Bar} (hs : l.Pairwise bltP) (h : ∀ b ∈ l, Sided b) : ∀ n, (turnN n l).Pairwise bltP
  | 0 => hs
  | n + 1 => by
    rw [turnN_eq]
    exact srtB_sorted (nodup_map (turnN_nodup (sortedB_nodup hs) h n) fun a ha b hb => turnB_inj (turnN_sided h n a ha) (turnN_sided h n b hb))
theorem turnN_set {l : List Bar} (hn : l.Nodup) (h : ∀ b ∈ l, Sided b) (n : Nat) : turnN (n + 1) l = setB ((turnN n l).map turnB) := by
  rw [turnN_eq, setB_srt (nodup_map (turnN_nodup hn h n) fun a ha b hb => turnB_inj (turnN_sided h n a ha) (turnN_sided h n b hb))]
/-- the reference's quarter turns -/
def rturnN : Nat → List Bar → List Bar
  | 0, l => l
  | n + 1, l => setB ((rturnN n l).map turnB)
theorem rturnN_eq {l : List Bar} (hn : l.Nodup) (h : ∀ b ∈ l, Sided b) : ∀ n, rturnN n l = turnN n l
  | 0 => rfl
  | n + 1 => by rw [rturnN, rturnN_eq hn h n, turnN_set hn h]
theorem turnN_mem (l : List Bar) (x : Bar) (n : Nat) : x ∈ turnN (n + 1) l ↔ ∃ b ∈ turnN n l, turnB b = x := by
  rw [turnN_eq, srtB_mem, List.mem_map]
theorem turnN_four {l : List Bar} (hs : l.Pairwise bltP) (h : ∀ b ∈ l, Sided b) : turnN 4 l = l :=
  sortedB_eq (turnN_sorted hs h 4) hs fun x => by
    constructor
    · intro hx
      obtain ⟨b3, h3, rfl⟩ := (turnN_mem l x 3).1 hx
      obtain ⟨b2, h2, rfl⟩ := (turnN_mem l _ 2).1 h3
      obtain ⟨b1, h1, rfl⟩ := (turnN_mem l _ 1).1 h2
      obtain ⟨b0, h0, rfl⟩ := (turnN_mem l _ 0).1 h1
      have h0' : b0 ∈ l := h0
      rw [turnB_four (h b0 h0')]; exact h0'
    · intro hx
      refine (turnN_mem l x 3).2 ⟨_, (turnN_mem l _ 2).2 ⟨_, (turnN_mem l _ 1).2 ⟨_, (turnN_mem l _ 0).2 ⟨x, hx, rfl⟩, rfl⟩, rfl⟩, turnB_four (h x hx)⟩
/-! ## the canonical form, of the reference -/
/-- whether a list comes before another one as long -/
def bef : List Bar → List Bar → Bool
  | [], _ => false
  | _ :: _, [] => false
  | a :: l, b :: r => if a = b then bef l r else decide (bltP a b)
theorem bef_drop {l r : List Bar} {k : Nat} (hl : k < l.length) (hr : k < r.length) : bef (l.drop k) (r.drop k) = if l[k] = r[k] then bef (l.drop (k + 1)) (r.drop (k + 1)) else decide (bltP l[k] r[k]) := by
  rw [List.drop_eq_getElem_cons hl, List.drop_eq_getElem_cons hr, bef]
theorem bef_cmp : ∀ {l r : List Bar}, l.length = r.length → (bef l r = true ↔ cmpL l r < 0)
  | [], [], _ => by simp [bef, cmpL]
  | a :: l, b :: r, h => by
    have ih := bef_cmp (l := l) (r := r) (by simpa using h)
    rw [bef, cmpL]
    by_cases hab : a = b
    · rw [if_pos hab, if_neg (by have := (barCmp_zero a b).2 hab; omega)]; exact ih
    · rw [if_neg hab, if_pos (fun e => hab ((barCmp_zero a b).1 e)), decide_eq_true_eq, barCmp_neg]
  | [], _ :: _, h => by simp at h
  | _ :: _, [], h => by simp at h
/-- the nets that the reference's canonical form goes through: ahead of round k, and in it -/
def rcN (l : List Bar) : Nat → List Bar
  | 0 => l
  | k + 1 => setB ((if k = 4 then setB ((rcN l k).map mirB) else rcN l k).map turnB)
def rcI (l : List Bar) (k : Nat) : List Bar := if k = 4 then setB ((rcN l k).map mirB) else rcN l k
theorem rcN_succ (l : List Bar) (k : Nat) : rcN l (k + 1) = setB ((rcI l k).map turnB) := rfl
def rcB (l : List Bar) : Nat → List Bar
  | 0 => nrm l
  | k + 1 => if bef (nrm (rcI l k)) (rcB l k) then nrm (rcI l k) else rcB l k
def rcA (l : List Bar) : Nat → Bool
  | 0 => allIn (nrm l)
  | k + 1 => rcA l k && allIn (nrm (rcI l k))
theorem rcI_frm {l : List Bar} (hs : l.Pairwise bltP) (h : ∀ b ∈ l, Sided b) {k : Nat} (hk : k < 8) : rcI l k = frm l k := by
  have hn := sortedB_nodup hs
  have lo : ∀ n, n ≤ 4 → rcN l n = turnN n l := fun n => by
    induction n with
    | zero => intro _; rfl
    | succ n ih =>
      intro hn4
      rw [rcN_succ]
      unfold rcI
      rw [if_neg (by omega), ih (by omega), turnN_set hn h]
  have h4 : rcI l 4 = mirN l := by
    unfold rcI
    rw [if_pos rfl, lo 4 (Nat.le_refl 4), turnN_four hs h, mirN_set hn]
  have hi : ∀ n, rcI l (4 + n) = turnN n (mirN l) := fun n => by
    induction n with
    | zero => exact h4
    | succ n ih =>
      unfold rcI
      rw [if_neg (by omega), show 4 + (n + 1) = (4 + n) + 1 from rfl, rcN_succ, ih, turnN_set (sortedB_nodup (mirN_sorted hn)) (mirN_sided h)]
  unfold frm
  by_cases h4' : k < 4
  · rw [if_pos h4', ← lo k (by omega)]
    unfold rcI
    rw [if_neg (by omega)]
  · rw [if_neg h4']
    obtain ⟨n, rfl⟩ : ∃ n, k = 4 + n := ⟨k - 4, by omega⟩
    rw [hi, show 4 + n - 4 = n by omega]
theorem nrm_len (l : List Bar) : (nrm l).length = l.length := by unfold nrm; rw [List.length_map]
theorem bst_len_eq (l : List Bar) : ∀ k, 0 < k → (bst l k).length = l.length
  | 0, h => by omega
  | k + 1, _ => by
    unfold bst
    by_cases hk : k = 0
    · rw [if_pos (.inl hk), nrm_len, frm_len]
    · split
      · rw [nrm_len, frm_len]
      · exact bst_len_eq l k (by omega)
theorem cmpL_self : ∀ l : List Bar, cmpL l l = 0
  | [] => rfl
  | a :: l => by rw [cmpL, if_neg (by have := (barCmp_zero a a).2 rfl; omega)]; exact cmpL_self l
theorem rcB_bst {l : List Bar} (hs : l.Pairwise bltP) (h : ∀ b ∈ l, Sided b) : ∀ {k : Nat}, k < 8 → rcB l (k + 1) = bst l (k + 1)
  | 0, _ => by
    have h2 : bst l 1 = nrm l := by unfold bst; rw [if_pos (.inl rfl)]; rfl
    have h3 : rcB l 1 = nrm l := by
      unfold rcB
      show (if bef (nrm l) (nrm l) = true then nrm l else nrm l) = nrm l
      split <;> rfl
    exact h3.trans h2.symm
  | k + 1, hk => by
    have ih := rcB_bst hs h (k := k) (by omega)
    rw [rcB, bst, ih, rcI_frm hs h hk]
    have hl : (nrm (frm l (k + 1))).length = (bst l (k + 1)).length := by rw [nrm_len, frm_len, bst_len_eq l _ (by omega)]
    have hb := bef_cmp hl
    by_cases hc : cmpL (nrm (frm l (k + 1))) (bst l (k + 1)) < 0
    · rw [if_pos (hb.2 hc), if_pos (.inr hc)]
    · rw [if_neg (fun e => hc (hb.1 e)), if_neg (by simp only [not_or]; exact ⟨by omega, hc⟩)]
theorem rcA_allN {l : List Bar} (hs : l.Pairwise bltP) (h : ∀ b ∈ l, Sided b) : ∀ {k : Nat}, k < 8 → rcA l (k + 1) = allN l (k + 1)
  | 0, _ => by
    have h0 : rcI l 0 = l := rfl
    have h1 : frm l 0 = l := rfl
    rw [rcA, allN, h0, h1, rcA, allN]
    cases allIn (nrm l) <;> rfl
  | k + 1, hk => by rw [rcA, allN, rcA_allN hs h (k := k) (by omega), rcI_frm hs h hk]
end Go.Proofs.YtkmjcoofkgpanaaGreatDoor

/- A net moved has the same numbers, plain. Conditions: none. -/
import Derived.Test.YtpompeancmonbaaGreatE08
import Derived.Test.YtpompeancmonbaaGreatE17
import Derived.Test.YtpompeancmonbaaGreatE23
import Derived.Test.YtpompeancmonbaaGreatE22
import Derived.Test.YtpompeancmonbaaGreatE24
import Derived.Test.YtpompeancmonbaaGreatE26
import Derived.Test.YtpompeancmonbaaGreatE14
import Derived.Test.YtpompeancmonbaaGreatE36
import Derived.Test.YtpompeancmonbaaGreatE33
namespace Go.Proofs.YtpompeancmonbaaGreat
open Go.RowKit Go.ChangeMaps
set_option maxHeartbeats 4000000
set_option maxRecDepth 100000

/-- the four bars of the mesh with a centre -/
def mshB (c : Knot) : Nat → Bar
  | 0 => (c.1, c.2 - 1, -1)
  | 1 => (c.1, c.2 - 1, 1)
  | 2 => (c.1 - 1, c.2, 1)
  | _ => (c.1 + 1, c.2, -1)
def MeshAt (l : List Bar) (c : Knot) : Prop := ∀ i, i < 4 → mshB c i ∈ l
theorem meshL_mem (l : List Bar) (c : Knot) : c ∈ meshLN l l ↔ MeshAt l c := by
  unfold meshLN
  rw [List.mem_map]
  constructor
  · rintro ⟨b, hb, rfl⟩
    obtain ⟨hb, hm⟩ := List.mem_filter.1 hb
    obtain ⟨h1, h2, h3, h4⟩ := (isMesh_iff l b).1 hm
    obtain ⟨x, y, s⟩ := b
    simp only at h1 h2 h3 h4
    subst h1
    intro i hi
    obtain rfl | rfl | rfl | rfl : i = 0 ∨ i = 1 ∨ i = 2 ∨ i = 3 := by omega
    · simp only [mshB]; rw [show y + 1 - 1 = y by omega]; exact hb
    · simp only [mshB]; rw [show y + 1 - 1 = y by omega]; exact h2
    · exact h3
    · exact h4
  · intro h
    refine ⟨mshB c 0, List.mem_filter.2 ⟨h 0 (by omega), (isMesh_iff l _).2 ⟨rfl, h 1 (by omega), ?_, ?_⟩⟩, ?_⟩
    · have := h 2 (by omega)
      simp only [mshB] at this ⊢
      rw [show c.2 - 1 + 1 = c.2 by omega]; exact this
    · have := h 3 (by omega)
      simp only [mshB] at this ⊢
      rw [show c.2 - 1 + 1 = c.2 by omega]; exact this
    · simp only [mshB]; rw [show c.2 - 1 + 1 = c.2 by omega]
theorem meshL_nodup {l : List Bar} (hn : l.Nodup) : (meshLN l l).Nodup := by
  unfold meshLN
  refine nodup_map (hn.filter _) fun a ha b hb e => ?_
  have h1 := ((isMesh_iff l a).1 (List.mem_filter.1 ha).2).1
  have h2 := ((isMesh_iff l b).1 (List.mem_filter.1 hb).2).1
  obtain ⟨x, y, s⟩ := a
  obtain ⟨x', y', s'⟩ := b
  simp only [Prod.mk.injEq] at *
  omega
/-- a motion of knots and of bars -/
structure Motion (g : Knot → Knot) (gB : Bar → Bar) : Prop where
  inj : ∀ u v, g u = g v → u = v
  surj : ∀ v, ∃ u, g u = v
  side : ∀ b, Sided b → Sided (gB b)
  ends : ∀ b, Sided b → Leads (gB b) (g (lowK b)) (g (uppK b))
  mesh : ∀ c j, j < 4 → ∃ i, i < 4 ∧ gB (mshB c i) = mshB (g c) j
  mesh' : ∀ c i, i < 4 → ∃ j, j < 4 ∧ gB (mshB c i) = mshB (g c) j
/-- a net is moved onto another one -/
def Moved (gB : Bar → Bar) (l l' : List Bar) : Prop := ∀ x, x ∈ l' ↔ ∃ b ∈ l, gB b = x
theorem bar_of_ends {a b : Bar} (hl : lowK a = lowK b) (hu : uppK a = uppK b) : a = b := by
  obtain ⟨x, y, s⟩ := a
  obtain ⟨x', y', s'⟩ := b
  unfold lowK uppK at *
  simp only [Prod.mk.injEq] at *
  omega
theorem leads_eq {b : Bar} {u v u' v' : Knot} (h : Leads b u v) (h' : Leads b u' v') : u = u' ∧ v = v' ∨ u = v' ∧ v = u' := by
  rcases h with ⟨rfl, rfl⟩ | ⟨rfl, rfl⟩ <;> rcases h' with ⟨rfl, rfl⟩ | ⟨rfl, rfl⟩
  · exact .inl ⟨rfl, rfl⟩
  · exact .inr ⟨rfl, rfl⟩
  · exact .inr ⟨rfl, rfl⟩
  · exact .inl ⟨rfl, rfl⟩
theorem Motion.injB {g : Knot → Knot} {gB : Bar → Bar} (M : Motion g gB) {a b : Bar} (ha : Sided a) (hb : Sided b) (h : gB a = gB b) : a = b := by
  have h1 := M.ends a ha
  have h2 := M.ends b hb
  rw [h] at h1
  rcases leads_eq h1 h2 with ⟨e1, e2⟩ | ⟨e1, e2⟩
  · exact bar_of_ends (M.inj _ _ e1) (M.inj _ _ e2)
  · have e1 := congrArg Prod.snd (M.inj _ _ e1)
    have e2 := congrArg Prod.snd (M.inj _ _ e2)
    unfold lowK uppK at e1 e2
    simp only at e1 e2
    omega
section
variable {g : Knot → Knot} {gB : Bar → Bar} {l l' : List Bar}
theorem Moved.mem (M : Motion g gB) (hd : ∀ b ∈ l, Sided b) (h : Moved gB l l') {b : Bar} (hb : Sided b) : gB b ∈ l' ↔ b ∈ l := by
  rw [h]
  constructor
  · rintro ⟨c, hc, e⟩
    rwa [← M.injB (hd c hc) hb e]
  · intro h; exact ⟨b, h, rfl⟩
theorem Moved.len (M : Motion g gB) (hd : ∀ b ∈ l, Sided b) (h : Moved gB l l') (hn : l.Nodup) (hn' : l'.Nodup) : l'.length = l.length := by
  have h1 := length_le_of_sub (l := l.map gB) (D := l') (nodup_map hn fun a ha b hb => M.injB (hd a ha) (hd b hb)) fun x hx => by
    obtain ⟨b, hb, rfl⟩ := List.mem_map.1 hx
    exact (h _).2 ⟨b, hb, rfl⟩
  have h2 := length_le_of_sub (l := l') (D := l.map gB) hn' fun x hx => List.mem_map.2 ((h x).1 hx)
  rw [List.length_map] at h1 h2
  omega
theorem Moved.knots (M : Motion g gB) (hd : ∀ b ∈ l, Sided b) (h : Moved gB l l') (k : Knot) : g k ∈ holeK l' ↔ k ∈ holeK l := by
  rw [holeK_ends, holeK_ends]
  constructor
  · rintro ⟨c, hc, e⟩
    obtain ⟨b, hb, rfl⟩ := (h c).1 hc
    refine ⟨b, hb, ?_⟩
    rcases M.ends b (hd b hb) with ⟨h1, h2⟩ | ⟨h1, h2⟩
    · rcases e with e | e
      · exact .inl (M.inj _ _ (e.trans h1.symm))
      · exact .inr (M.inj _ _ (e.trans h2.symm))
    · rcases e with e | e
      · exact .inr (M.inj _ _ (e.trans h2.symm))
      · exact .inl (M.inj _ _ (e.trans h1.symm))
  · rintro ⟨b, hb, e⟩
    refine ⟨gB b, (h _).2 ⟨b, hb, rfl⟩, ?_⟩
    rcases M.ends b (hd b hb) with ⟨h1, h2⟩ | ⟨h1, h2⟩
    · rcases e with rfl | rfl
      · exact .inl h1
      · exact .inr h2
    · rcases e with rfl | rfl
      · exact .inr h1
      · exact .inl h2
theorem same_lenN {α β : Type} [DecidableEq β] {A : List α} {B : List β} {f : α → β} (hA : A.Nodup) (hB : B.Nodup) (hi : ∀ a ∈ A, ∀ b ∈ A, f a = f b → a = b) (h : ∀ x, x ∈ B ↔ ∃ a ∈ A, f a = x) : B.length = A.length := by
  have h1 := length_le_of_sub (l := A.map f) (D := B) (nodup_map hA hi) fun x hx => (h x).2 (List.mem_map.1 hx)
  have h2 := length_le_of_sub (l := B) (D := A.map f) hB fun x hx => List.mem_map.2 ((h x).1 hx)
  rw [List.length_map] at h1 h2
  omega
theorem Moved.knots_iff (M : Motion g gB) (hd : ∀ b ∈ l, Sided b) (h : Moved gB l l') (x : Knot) : x ∈ holeK l' ↔ ∃ k ∈ holeK l, g k = x := by
  obtain ⟨k, rfl⟩ := M.surj x
  rw [h.knots M hd]
  constructor
  · intro h; exact ⟨k, h, rfl⟩
  · rintro ⟨k', hk', e⟩; rwa [← M.inj _ _ e]
theorem Moved.knots_len (M : Motion g gB) (hd : ∀ b ∈ l, Sided b) (h : Moved gB l l') : (holeK l').length = (holeK l).length :=
  same_lenN (sortedK_nodup (holeK_sorted l)) (sortedK_nodup (holeK_sorted l')) (fun a _ b _ e => M.inj a b e) (h.knots_iff M hd)
theorem Moved.meshes (M : Motion g gB) (hd : ∀ b ∈ l, Sided b) (h : Moved gB l l') (c : Knot) : MeshAt l' (g c) ↔ MeshAt l c := by
  have hs : ∀ i, Sided (mshB c i) := fun i => by
    match i with
    | 0 => exact .inr rfl
    | 1 => exact .inl rfl
    | 2 => exact .inl rfl
    | _ + 3 => exact .inr rfl
  constructor
  · intro hm i hi
    obtain ⟨j, hj, e⟩ := M.mesh' c i hi
    exact (h.mem M hd (hs i)).1 (by rw [e]; exact hm j hj)
  · intro hm j hj
    obtain ⟨i, hi, e⟩ := M.mesh c j hj
    rw [← e]
    exact (h.mem M hd (hs i)).2 (hm i hi)
theorem Moved.meshes_len (M : Motion g gB) (hd : ∀ b ∈ l, Sided b) (h : Moved gB l l') (hn : l.Nodup) (hn' : l'.Nodup) : (meshLN l' l').length = (meshLN l l).length :=
  same_lenN (meshL_nodup hn) (meshL_nodup hn') (fun a _ b _ e => M.inj a b e) fun x => by
    obtain ⟨c, rfl⟩ := M.surj x
    rw [meshL_mem, h.meshes M hd]
    constructor
    · intro h; exact ⟨c, (meshL_mem l c).2 h, rfl⟩
    · rintro ⟨k', hk', e⟩; rw [← M.inj _ _ e]; exact (meshL_mem l k').1 hk'
theorem Moved.kc (M : Motion g gB) (hd : ∀ b ∈ l, Sided b) (h : Moved gB l l') (u v : Knot) : KC l' (g u) (g v) ↔ KC l u v := by
  constructor
  · have key : ∀ x, KC l' (g u) x → ∀ v, g v = x → KC l u v := fun x hx => by
      induction hx with
      | refl => intro v e; rw [M.inj _ _ e]; exact .refl
      | step _ hm ht ih =>
        rename_i x w c _
        intro v e
        subst e
        obtain ⟨x0, rfl⟩ := M.surj x
        obtain ⟨b, hb, rfl⟩ := (h c).1 hm
        refine (ih x0 rfl).step hb ?_
        rcases leads_eq ht (M.ends b (hd b hb)) with ⟨e1, e2⟩ | ⟨e1, e2⟩
        · exact .inl ⟨M.inj _ _ e1, M.inj _ _ e2⟩
        · exact .inr ⟨M.inj _ _ e1, M.inj _ _ e2⟩
    exact fun hx => key _ hx v rfl
  · intro hx
    induction hx with
    | refl => exact .refl
    | step _ hm ht ih =>
      rename_i x w b _
      refine ih.step ((h _).2 ⟨b, hm, rfl⟩) ?_
      have := M.ends b (hd b hm)
      rcases ht with ⟨rfl, rfl⟩ | ⟨rfl, rfl⟩
      · exact this
      · exact this.symm
theorem Moved.parts_len (M : Motion g gB) (hd : ∀ b ∈ l, Sided b) (h : Moved gB l l') : (prtC l' l'.length).length = (prtC l l.length).length := by
  obtain ⟨f, hf⟩ := lab_ex l'
  have hg : Lab l (fun k => f (g k)) := fun u v => (hf _ _).trans (h.kc M hd u v)
  rw [Go.Proofs.YtpompeancmonbaaGreat.parts_len hf, Go.Proofs.YtpompeancmonbaaGreat.parts_len hg]
  refine nL_set fun x => ?_
  simp only [List.mem_map]
  constructor
  · rintro ⟨k, hk, rfl⟩
    obtain ⟨k0, hk0, rfl⟩ := (h.knots_iff M hd k).1 hk
    exact ⟨k0, hk0, rfl⟩
  · rintro ⟨k, hk, rfl⟩
    exact ⟨g k, (h.knots M hd k).2 hk, rfl⟩
theorem Moved.deg (M : Motion g gB) (hd : ∀ b ∈ l, Sided b) (h : Moved gB l l') (hn : l.Nodup) (hn' : l'.Nodup) (k : Knot) : degN l' (g k) = degN l k := by
  rw [degN_eq, degN_eq, List.countP_eq_length_filter, List.countP_eq_length_filter]
  refine same_lenN (f := gB) (hn.filter _) (hn'.filter _) (fun a ha b hb => M.injB (hd a (List.mem_filter.1 ha).1) (hd b (List.mem_filter.1 hb).1)) fun x => ?_
  have hat : ∀ b, Sided b → (atB (g k) (gB b) = true ↔ atB k b = true) := fun b hb => by
    unfold atB
    simp only [Bool.or_eq_true, decide_eq_true_eq]
    rcases M.ends b hb with ⟨h1, h2⟩ | ⟨h1, h2⟩
    · rw [← h1, ← h2]
      exact ⟨fun e => e.imp (M.inj _ _) (M.inj _ _), fun e => e.imp (congrArg g) (congrArg g)⟩
    · rw [← h1, ← h2]
      exact ⟨fun e => (e.imp (M.inj _ _) (M.inj _ _)).symm, fun e => (e.imp (congrArg g) (congrArg g)).symm⟩
  rw [List.mem_filter, h]
  constructor
  · rintro ⟨⟨b, hb, rfl⟩, ha⟩
    exact ⟨b, List.mem_filter.2 ⟨hb, (hat b (hd b hb)).1 ha⟩, rfl⟩
  · rintro ⟨b, hb, rfl⟩
    obtain ⟨hb, ha⟩ := List.mem_filter.1 hb
    exact ⟨⟨b, hb, rfl⟩, (hat b (hd b hb)).2 ha⟩
theorem Moved.legs (M : Motion g gB) (hd : ∀ b ∈ l, Sided b) (h : Moved gB l l') (hn : l.Nodup) (hn' : l'.Nodup) (d : Nat) : legC l' (holeK l') d = legC l (holeK l) d := by
  unfold legC
  refine same_lenN (f := g) ((sortedK_nodup (holeK_sorted l)).filter _) ((sortedK_nodup (holeK_sorted l')).filter _) (fun a _ b _ e => M.inj a b e) fun x => ?_
  rw [List.mem_filter, h.knots_iff M hd]
  constructor
  · rintro ⟨⟨k, hk, rfl⟩, e⟩
    rw [h.deg M hd hn hn'] at e
    exact ⟨k, List.mem_filter.2 ⟨hk, e⟩, rfl⟩
  · rintro ⟨k, hk, rfl⟩
    obtain ⟨hk, e⟩ := List.mem_filter.1 hk
    exact ⟨⟨k, hk, rfl⟩, by rw [h.deg M hd hn hn']; exact e⟩
end
/-! ## the three motions -/
def shK (d k : Knot) : Knot := (k.1 + d.1, k.2 + d.2)
theorem shift_motion (d : Knot) : Motion (shK d) (shB d) where
  inj u v e := by
    obtain ⟨a, b⟩ := u
    obtain ⟨a', b'⟩ := v
    unfold shK at e
    simp only [Prod.mk.injEq] at *
    omega
  surj v := ⟨(v.1 - d.1, v.2 - d.2), by unfold shK; simp [Int.sub_add_cancel]⟩
  side b h := h
  ends b _ := by
    left
    unfold shK shB lowK uppK
    simp only [Prod.mk.injEq, true_and]
    omega
  mesh c j hj := ⟨j, hj, by
    obtain rfl | rfl | rfl | rfl : j = 0 ∨ j = 1 ∨ j = 2 ∨ j = 3 := by omega
    all_goals (unfold shK shB mshB; simp only [Prod.mk.injEq, and_true, true_and] <;> omega)⟩
  mesh' c j hj := ⟨j, hj, by
    obtain rfl | rfl | rfl | rfl : j = 0 ∨ j = 1 ∨ j = 2 ∨ j = 3 := by omega
    all_goals (unfold shK shB mshB; simp only [Prod.mk.injEq, and_true, true_and] <;> omega)⟩
theorem mirror_motion : Motion mirK mirB where
  inj u v e := by
    obtain ⟨a, b⟩ := u
    obtain ⟨a', b'⟩ := v
    unfold mirK at e
    simp only [Prod.mk.injEq] at *
    omega
  surj v := ⟨mirK v, by unfold mirK; simp⟩
  side b h := mirB_sided h
  ends b _ := by
    left
    unfold mirK mirB lowK uppK
    simp only [Prod.mk.injEq, and_true, true_and]
    omega
  mesh c j hj := by
    obtain rfl | rfl | rfl | rfl : j = 0 ∨ j = 1 ∨ j = 2 ∨ j = 3 := by omega
    · exact ⟨1, by omega, by unfold mirK mirB mshB; simp only <;> omega⟩
    · exact ⟨0, by omega, by unfold mirK mirB mshB; simp only [Prod.mk.injEq, true_and] <;> omega⟩
    · exact ⟨3, by omega, by unfold mirK mirB mshB; simp only [Prod.mk.injEq, true_and] <;> omega⟩
    · exact ⟨2, by omega, by unfold mirK mirB mshB; simp only [Prod.mk.injEq, and_true] <;> omega⟩
  mesh' c j hj := by
    obtain rfl | rfl | rfl | rfl : j = 0 ∨ j = 1 ∨ j = 2 ∨ j = 3 := by omega
    · exact ⟨1, by omega, by unfold mirK mirB mshB; simp only [Prod.mk.injEq, true_and] <;> omega⟩
    · exact ⟨0, by omega, by unfold mirK mirB mshB; simp only <;> omega⟩
    · exact ⟨3, by omega, by unfold mirK mirB mshB; simp only [Prod.mk.injEq, and_true] <;> omega⟩
    · exact ⟨2, by omega, by unfold mirK mirB mshB; simp only [Prod.mk.injEq, true_and] <;> omega⟩
theorem turn_motion : Motion turnK turnB where
  inj u v e := by
    obtain ⟨a, b⟩ := u
    obtain ⟨a', b'⟩ := v
    unfold turnK at e
    simp only [Prod.mk.injEq] at *
    omega
  surj v := ⟨(v.2, -v.1), by unfold turnK; simp⟩
  side b h := turnB_sided h
  ends b h := by
    obtain ⟨x, y, s⟩ := b
    unfold Sided at h
    simp only at h
    obtain rfl | rfl := h
    · left; rw [turn_up]; unfold turnK lowK uppK; simp only [Prod.mk.injEq, and_true, true_and] <;> omega
    · right; rw [turn_dn]; unfold turnK lowK uppK; simp only [Prod.mk.injEq] <;> omega
  mesh c j hj := by
    obtain ⟨x, y⟩ := c
    obtain rfl | rfl | rfl | rfl : j = 0 ∨ j = 1 ∨ j = 2 ∨ j = 3 := by omega
    · exact ⟨2, by omega, by simp only [mshB, turnK, turn_up] <;> omega⟩
    · exact ⟨0, by omega, by simp only [mshB, turnK, turn_dn, Prod.mk.injEq, and_true] <;> omega⟩
    · exact ⟨3, by omega, by simp only [mshB, turnK, turn_dn, Prod.mk.injEq, and_true, true_and] <;> omega⟩
    · exact ⟨1, by omega, by simp only [mshB, turnK, turn_up, Prod.mk.injEq, and_true] <;> omega⟩
  mesh' c j hj := by
    obtain ⟨x, y⟩ := c
    obtain rfl | rfl | rfl | rfl : j = 0 ∨ j = 1 ∨ j = 2 ∨ j = 3 := by omega
    · exact ⟨1, by omega, by simp only [mshB, turnK, turn_dn, Prod.mk.injEq, and_true] <;> omega⟩
    · exact ⟨3, by omega, by simp only [mshB, turnK, turn_up, Prod.mk.injEq, and_true] <;> omega⟩
    · exact ⟨0, by omega, by simp only [mshB, turnK, turn_up] <;> omega⟩
    · exact ⟨2, by omega, by simp only [mshB, turnK, turn_dn, Prod.mk.injEq, and_true, true_and] <;> omega⟩
end Go.Proofs.YtpompeancmonbaaGreat

/- Two nets merged, plain. Conditions: the nets are in their order. -/
namespace Go.Proofs.YtpompeancmonbaaGreat
open Go.RowKit Go.ChangeMaps
set_option maxHeartbeats 4000000
set_option maxRecDepth 100000

theorem blt_all {x y : Bar} {l : List Bar} (h : bltP x y) (hs : (y :: l).Pairwise bltP) : ∀ z ∈ y :: l, bltP x z := fun z hz => by
  rcases List.mem_cons.1 hz with rfl | hz
  · exact h
  · exact bltP_trans h ((List.pairwise_cons.1 hs).1 z hz)
theorem blt_tri {a b : Bar} (h : ¬ bltP a b) (hne : a ≠ b) : bltP b a := by
  rw [bltP_iff] at h ⊢
  obtain ⟨x, y, s⟩ := a
  obtain ⟨x', y', s'⟩ := b
  simp only [ne_eq, Prod.mk.injEq] at *
  omega
/-- what is kept, as a test on the two lists -/
def kept (K : Bool → Bool → Bool) (a b : List Bar) (x : Bar) : Prop := (x ∈ a ∨ x ∈ b) ∧ K (decide (x ∈ a)) (decide (x ∈ b)) = true
theorem if_mem {p : Bool} {x y : Bar} : y ∈ (if p then [x] else []) ↔ y = x ∧ p = true := by cases p <;> simp
theorem merge_cons {x : Bar} {p : Bool} {r : List Bar} (hr : r.Pairwise bltP) (hx : ∀ z ∈ r, bltP x z) : ((if p then [x] else []) ++ r).Pairwise bltP := by
  cases p
  · simpa using hr
  · simpa using ⟨fun a b c h => hx _ h, hr⟩
theorem mergeF_spec (K : Bool → Bool → Bool) : ∀ (n : Nat) (a b : List Bar), a.Pairwise bltP → b.Pairwise bltP → a.length + b.length ≤ n → (mergeF K n a b).Pairwise bltP ∧ ∀ x, x ∈ mergeF K n a b ↔ kept K a b x
  | 0, a, b, _, _, h => by
    obtain rfl : a = [] := List.eq_nil_of_length_eq_zero (by omega)
    obtain rfl : b = [] := List.eq_nil_of_length_eq_zero (by omega)
    simp [mergeF, kept]
  | n + 1, [], [], _, _, _ => by simp [mergeF, kept]
  | n + 1, x :: a, [], ha, hb, h => by
    obtain ⟨h1, h2⟩ := mergeF_spec K n a [] (List.pairwise_cons.1 ha).2 hb (by simp at h ⊢; omega)
    have hxa : x ∉ a := fun hm => bltP_irrefl x ((List.pairwise_cons.1 ha).1 x hm)
    refine ⟨merge_cons h1 fun z hz => (List.pairwise_cons.1 ha).1 z (by have := ((h2 z).1 hz).1; simpa using this), fun z => ?_⟩
    simp only [mergeF, List.mem_append, if_mem, h2]
    unfold kept
    by_cases hz : z = x
    · subst hz; simp [hxa]
    · simp [hz]
  | n + 1, [], y :: b, ha, hb, h => by
    obtain ⟨h1, h2⟩ := mergeF_spec K n [] b ha (List.pairwise_cons.1 hb).2 (by simp at h ⊢; omega)
    have hyb : y ∉ b := fun hm => bltP_irrefl y ((List.pairwise_cons.1 hb).1 y hm)
    refine ⟨merge_cons h1 fun z hz => (List.pairwise_cons.1 hb).1 z (by have := ((h2 z).1 hz).1; simpa using this), fun z => ?_⟩
    simp only [mergeF, List.mem_append, if_mem, h2]
    unfold kept
    by_cases hz : z = y
    · subst hz; simp [hyb]
    · simp [hz]
  | n + 1, x :: a, y :: b, ha, hb, h => by
    have hxa : x ∉ a := fun hm => bltP_irrefl x ((List.pairwise_cons.1 ha).1 x hm)
    have hyb : y ∉ b := fun hm => bltP_irrefl y ((List.pairwise_cons.1 hb).1 y hm)
    simp only [List.length_cons] at h
    simp only [mergeF]
    split
    · rename_i hlt
      obtain ⟨h1, h2⟩ := mergeF_spec K n a (y :: b) (List.pairwise_cons.1 ha).2 hb (by simp; omega)
      have hxb : x ∉ y :: b := fun hm => bltP_irrefl x (blt_all hlt hb x hm)
      refine ⟨merge_cons h1 fun z hz => ?_, fun z => ?_⟩
      · rcases ((h2 z).1 hz).1 with hz | hz
        · exact (List.pairwise_cons.1 ha).1 z hz
        · exact blt_all hlt hb z hz
      · rw [List.mem_append, if_mem, h2]
        unfold kept
        by_cases hz : z = x
        · subst hz; simp [hxa, hxb]
        · simp only [List.mem_cons (a := z) (b := x), hz, false_or, false_and]
    · rename_i hn
      split
      · rename_i hxy
        subst hxy
        obtain ⟨h1, h2⟩ := mergeF_spec K n a b (List.pairwise_cons.1 ha).2 (List.pairwise_cons.1 hb).2 (by omega)
        refine ⟨merge_cons h1 fun z hz => ?_, fun z => ?_⟩
        · rcases ((h2 z).1 hz).1 with hz | hz
          · exact (List.pairwise_cons.1 ha).1 z hz
          · exact (List.pairwise_cons.1 hb).1 z hz
        · rw [List.mem_append, if_mem, h2]
          unfold kept
          by_cases hz : z = x
          · subst hz; simp [hxa, hyb]
          · simp only [List.mem_cons (a := z) (b := x), hz, false_or, false_and]
      · rename_i hne
        have hyx := blt_tri hn hne
        obtain ⟨h1, h2⟩ := mergeF_spec K n (x :: a) b ha (List.pairwise_cons.1 hb).2 (by simp; omega)
        have hya : y ∉ x :: a := fun hm => bltP_irrefl y (blt_all hyx ha y hm)
        refine ⟨merge_cons h1 fun z hz => ?_, fun z => ?_⟩
        · rcases ((h2 z).1 hz).1 with hz | hz
          · exact blt_all hyx ha z hz
          · exact (List.pairwise_cons.1 hb).1 z hz
        · rw [List.mem_append, if_mem, h2]
          unfold kept
          by_cases hz : z = y
          · subst hz; simp [hyb, hya]
          · simp only [List.mem_cons (a := z) (b := y), hz, false_or, false_and]
theorem mergeL_sorted (K : Bool → Bool → Bool) {a b : List Bar} (ha : a.Pairwise bltP) (hb : b.Pairwise bltP) : (mergeL K a b).Pairwise bltP := (mergeF_spec K _ a b ha hb (Nat.le_refl _)).1
theorem mergeL_mem (K : Bool → Bool → Bool) {a b : List Bar} (ha : a.Pairwise bltP) (hb : b.Pairwise bltP) (x : Bar) : x ∈ mergeL K a b ↔ kept K a b x := (mergeF_spec K _ a b ha hb (Nat.le_refl _)).2 x
theorem merge_minus {a b : List Bar} (ha : a.Pairwise bltP) (hb : b.Pairwise bltP) : mergeL minusK a b = wout a b :=
  sortedB_eq (mergeL_sorted _ ha hb) (ha.filter _) fun x => by
    rw [mergeL_mem _ ha hb]
    unfold kept minusK wout hasb
    simp only [List.mem_filter, Bool.and_eq_true, decide_eq_true_eq, Bool.not_eq_true', decide_eq_false_iff_not]
    constructor
    · rintro ⟨_, h1, h2⟩; exact ⟨h1, h2⟩
    · rintro ⟨h1, h2⟩; exact ⟨.inl h1, h1, h2⟩
theorem merge_meet {a b : List Bar} (ha : a.Pairwise bltP) (hb : b.Pairwise bltP) : mergeL meetK a b = meetL a b :=
  sortedB_eq (mergeL_sorted _ ha hb) (ha.filter _) fun x => by
    rw [mergeL_mem _ ha hb]
    unfold kept meetK meetL hasb
    simp only [List.mem_filter, Bool.and_eq_true, decide_eq_true_eq]
    constructor
    · rintro ⟨_, h1, h2⟩; exact ⟨h1, h2⟩
    · rintro ⟨h1, h2⟩; exact ⟨.inl h1, h1, h2⟩
theorem merge_union {a b : List Bar} (ha : a.Pairwise bltP) (hb : b.Pairwise bltP) : mergeL unionK a b = setB (a ++ b) :=
  sortedB_eq (mergeL_sorted _ ha hb) (setB_sorted _) fun x => by
    rw [mergeL_mem _ ha hb, setB_mem, List.mem_append]
    unfold kept unionK
    simp only [Bool.or_eq_true, decide_eq_true_eq]
    exact ⟨fun h => h.1, fun h => ⟨h, h⟩⟩
end Go.Proofs.YtpompeancmonbaaGreat

/- The canonical form of a net moved, plain. Conditions: the net is in its order. -/
namespace Go.Proofs.YtpompeancmonbaaGreat
open Go.RowKit Go.ChangeMaps
set_option maxHeartbeats 4000000
set_option maxRecDepth 100000

theorem bef_self : ∀ l : List Bar, bef l l = false
  | [] => rfl
  | a :: l => by rw [bef, if_pos rfl]; exact bef_self l
theorem bef_trans : ∀ {a b c : List Bar}, a.length = b.length → b.length = c.length → bef a b = true → bef b c = true → bef a c = true
  | [], b, c, _, _, h, _ => by simp [bef] at h
  | x :: a, [], c, h, _, _, _ => by simp at h
  | x :: a, y :: b, [], _, h, _, _ => by simp at h
  | x :: a, y :: b, z :: c, h1, h2, h3, h4 => by
    rw [bef] at h3 h4 ⊢
    by_cases hxy : x = y
    · subst hxy
      rw [if_pos rfl] at h3
      by_cases hxz : x = z
      · rw [if_pos hxz] at h4 ⊢
        exact bef_trans (by simpa using h1) (by simpa using h2) h3 h4
      · rw [if_neg hxz] at h4 ⊢
        exact h4
    · rw [if_neg hxy, decide_eq_true_eq] at h3
      by_cases hyz : y = z
      · subst hyz
        rw [if_neg hxy, decide_eq_true_eq]; exact h3
      · rw [if_neg hyz, decide_eq_true_eq] at h4
        have := bltP_trans h3 h4
        rw [if_neg (fun (e : x = z) => by rw [e] at this; exact bltP_irrefl z this), decide_eq_true_eq]
        exact this
theorem bef_tri : ∀ {a b : List Bar}, a.length = b.length → bef a b = false → a ≠ b → bef b a = true
  | [], [], _, _, h => absurd rfl h
  | [], _ :: _, h, _, _ => by simp at h
  | _ :: _, [], h, _, _ => by simp at h
  | x :: a, y :: b, h, h1, h2 => by
    rw [bef] at h1 ⊢
    by_cases hxy : x = y
    · subst hxy
      rw [if_pos rfl] at h1 ⊢
      exact bef_tri (by simpa using h) h1 fun e => h2 (by rw [e])
    · rw [if_neg hxy, decide_eq_false_iff_not] at h1
      rw [if_neg (fun e => hxy e.symm), decide_eq_true_eq]
      exact blt_tri h1 hxy
theorem bst_bef (l : List Bar) (k : Nat) (hk : 0 < k) : bst l (k + 1) = if bef (nrm (frm l k)) (bst l k) then nrm (frm l k) else bst l k := by
  rw [bst]
  have hl : (nrm (frm l k)).length = (bst l k).length := by rw [nrm_len, frm_len, bst_len_eq l _ hk]
  have hb := bef_cmp hl
  by_cases hc : cmpL (nrm (frm l k)) (bst l k) < 0
  · rw [if_pos (hb.2 hc), if_pos (.inr hc)]
  · rw [if_neg (fun e => hc (hb.1 e)), if_neg (by simp only [not_or]; exact ⟨by omega, hc⟩)]
theorem bst_mem (l : List Bar) : ∀ n, 0 < n → ∃ k, k < n ∧ bst l n = nrm (frm l k)
  | 0, h => by omega
  | 1, _ => ⟨0, by omega, by rw [bst, if_pos (.inl rfl)]⟩
  | n + 2, _ => by
    rw [bst_bef l (n + 1) (by omega)]
    split
    · exact ⟨n + 1, by omega, rfl⟩
    · obtain ⟨k, hk, e⟩ := bst_mem l (n + 1) (by omega)
      exact ⟨k, by omega, e⟩
theorem form_len (l : List Bar) (k : Nat) : (nrm (frm l k)).length = l.length := by rw [nrm_len, frm_len]
theorem bst_min (l : List Bar) : ∀ n, 0 < n → ∀ k, k < n → bef (nrm (frm l k)) (bst l n) = false
  | 0, h, _, _ => by omega
  | 1, _, k, hk => by
    obtain rfl : k = 0 := by omega
    rw [bst, if_pos (.inl rfl)]; exact bef_self _
  | n + 2, _, k, hk => by
    have ih := bst_min l (n + 1) (by omega)
    rw [bst_bef l (n + 1) (by omega)]
    have hl := bst_len_eq l (n + 1) (by omega)
    by_cases hb : bef (nrm (frm l (n + 1))) (bst l (n + 1)) = true
    · rw [if_pos hb]
      by_cases hkn : k = n + 1
      · subst hkn; exact bef_self _
      · cases h : bef (nrm (frm l k)) (nrm (frm l (n + 1))) with
        | false => rfl
        | true =>
          have := bef_trans (by rw [form_len, form_len]) (by rw [form_len, hl]) h hb
          rw [ih k (by omega)] at this
          cases this
    · rw [if_neg hb]
      by_cases hkn : k = n + 1
      · subst hkn; simpa using hb
      · exact ih k (by omega)
theorem bst_same {l l' : List Bar} (hl : l.length = l'.length) (h1 : ∀ k, k < 8 → ∃ j, j < 8 ∧ nrm (frm l k) = nrm (frm l' j)) (h2 : ∀ k, k < 8 → ∃ j, j < 8 ∧ nrm (frm l' k) = nrm (frm l j)) : bst l 8 = bst l' 8 := by
  obtain ⟨k, hk, e⟩ := bst_mem l 8 (by omega)
  obtain ⟨k', hk', e'⟩ := bst_mem l' 8 (by omega)
  obtain ⟨j, hj, ej⟩ := h1 k hk
  obtain ⟨j', hj', ej'⟩ := h2 k' hk'
  have m1 := bst_min l' 8 (by omega) j hj
  have m2 := bst_min l 8 (by omega) j' hj'
  rw [← ej, ← e] at m1
  rw [← ej', ← e'] at m2
  refine Decidable.byContradiction fun hne => ?_
  have := bef_tri (by rw [bst_len_eq l 8 (by omega), bst_len_eq l' 8 (by omega), hl]) m1 hne
  rw [m2] at this
  cases this
/-! ## shifted -/
theorem shB_lt (d : Knot) {a b : Bar} : bltP (shB d a) (shB d b) ↔ bltP a b := by
  rw [bltP_iff, bltP_iff]; unfold shB; simp only; omega
theorem shift_sorted {l : List Bar} (hs : l.Pairwise bltP) (d : Knot) : (l.map (shB d)).Pairwise bltP := by
  rw [List.pairwise_map]; exact hs.imp fun h => (shB_lt d).2 h
theorem shift_sided {l : List Bar} (h : ∀ b ∈ l, Sided b) (d : Knot) : ∀ b ∈ l.map (shB d), Sided b := fun b hb => by
  obtain ⟨c, hc, rfl⟩ := List.mem_map.1 hb
  exact h c hc
theorem turn_shift (d : Knot) {b : Bar} (h : Sided b) : turnB (shB d b) = shB (turnK d) (turnB b) := by
  obtain ⟨x, y, s⟩ := b
  unfold Sided at h
  simp only at h
  obtain rfl | rfl := h
  · unfold shB; simp only [turn_up, turnK, Prod.mk.injEq, and_true] <;> omega
  · unfold shB; simp only [turn_dn, turnK, Prod.mk.injEq, and_true] <;> omega
theorem mir_shift (d : Knot) (b : Bar) : mirB (shB d b) = shB (mirK d) (mirB b) := by
  obtain ⟨x, y, s⟩ := b
  unfold shB mirB mirK; simp only [Prod.mk.injEq, and_true] <;> omega
def tK (d : Knot) : Nat → Knot
  | 0 => d
  | n + 1 => turnK (tK d n)
theorem turnN_shift {l : List Bar} (hs : l.Pairwise bltP) (h : ∀ b ∈ l, Sided b) (d : Knot) : ∀ n, turnN n (l.map (shB d)) = (turnN n l).map (shB (tK d n))
  | 0 => rfl
  | n + 1 => by
    refine sortedB_eq (turnN_sorted (shift_sorted hs d) (shift_sided h d) _) (shift_sorted (turnN_sorted hs h _) _) fun x => ?_
    rw [turnN_eq, turnN_shift hs h d n, srtB_mem, List.map_map, turnN_eq, List.mem_map, List.mem_map]
    constructor
    · rintro ⟨b, hb, rfl⟩
      exact ⟨turnB b, (srtB_mem _ _).2 (List.mem_map.2 ⟨b, hb, rfl⟩), (turn_shift _ (turnN_sided h n b hb)).symm⟩
    · rintro ⟨c, hc, rfl⟩
      rw [srtB_mem, List.mem_map] at hc
      obtain ⟨b, hb, rfl⟩ := hc
      exact ⟨b, hb, turn_shift _ (turnN_sided h n b hb)⟩
theorem mirN_shift {l : List Bar} (hs : l.Pairwise bltP) (d : Knot) : mirN (l.map (shB d)) = (mirN l).map (shB (mirK d)) := by
  refine sortedB_eq (mirN_sorted (sortedB_nodup (shift_sorted hs d))) (shift_sorted (mirN_sorted (sortedB_nodup hs)) _) fun x => ?_
  rw [mirN_eq, srtB_mem, List.map_map, mirN_eq, List.mem_map, List.mem_map]
  constructor
  · rintro ⟨b, hb, rfl⟩
    exact ⟨mirB b, (srtB_mem _ _).2 (List.mem_map.2 ⟨b, hb, rfl⟩), (mir_shift _ _).symm⟩
  · rintro ⟨c, hc, rfl⟩
    rw [srtB_mem, List.mem_map] at hc
    obtain ⟨b, hb, rfl⟩ := hc
    exact ⟨b, hb, mir_shift _ _⟩
theorem nrm_shift (l : List Bar) (d : Knot) : nrm (l.map (shB d)) = nrm l := by
  cases l with
  | nil => rfl
  | cons a r =>
    unfold nrm
    rw [List.map_map]
    refine List.map_congr_left fun b _ => ?_
    show ((b.1 + d.1 + -(a.1 + d.1), b.2.1 + d.2 + -(a.2.1 + d.2), b.2.2) : Bar) = (b.1 + -a.1, b.2.1 + -a.2.1, b.2.2)
    rw [show b.1 + d.1 + -(a.1 + d.1) = b.1 + -a.1 by omega, show b.2.1 + d.2 + -(a.2.1 + d.2) = b.2.1 + -a.2.1 by omega]
theorem frm_shift {l : List Bar} (hs : l.Pairwise bltP) (h : ∀ b ∈ l, Sided b) (d : Knot) (k : Nat) : nrm (frm (l.map (shB d)) k) = nrm (frm l k) := by
  unfold frm
  split
  · rw [turnN_shift hs h, nrm_shift]
  · rw [mirN_shift hs, turnN_shift (mirN_sorted (sortedB_nodup hs)) (mirN_sided h), nrm_shift]
theorem bst_shift {l : List Bar} (hs : l.Pairwise bltP) (h : ∀ b ∈ l, Sided b) (d : Knot) : bst (l.map (shB d)) 8 = bst l 8 :=
  bst_same (by rw [List.length_map]) (fun k hk => ⟨k, hk, frm_shift hs h d k⟩) fun k hk => ⟨k, hk, (frm_shift hs h d k).symm⟩
/-! ## turned, mirrored -/
theorem turnN_add (l : List Bar) (m : Nat) : ∀ n, turnN n (turnN m l) = turnN (n + m) l
  | 0 => by rw [Nat.zero_add]; rfl
  | n + 1 => by rw [turnN_eq, turnN_add l m n, show n + 1 + m = (n + m) + 1 by omega, turnN_eq]
theorem mir_turn {b : Bar} (h : Sided b) : mirB (turnB b) = turnB (turnB (turnB (mirB b))) := by
  obtain ⟨x, y, s⟩ := b
  unfold Sided at h
  simp only at h
  obtain rfl | rfl := h
  · simp only [turn_up, turn_dn, mirB, Int.neg_neg, Prod.mk.injEq, and_true] <;> omega
  · simp only [turn_up, turn_dn, mirB, Int.neg_neg] <;> omega
theorem mirN_mirN {l : List Bar} (hs : l.Pairwise bltP) : mirN (mirN l) = l :=
  sortedB_eq (mirN_sorted (sortedB_nodup (mirN_sorted (sortedB_nodup hs)))) hs fun x => by rw [mirN_mem, mirN_mem, mirB_mirB]
theorem mirN_turn {l : List Bar} (hs : l.Pairwise bltP) (h : ∀ b ∈ l, Sided b) : mirN (turnN 1 l) = turnN 3 (mirN l) := by
  refine sortedB_eq (mirN_sorted (turnN_nodup (sortedB_nodup hs) h 1)) (turnN_sorted (mirN_sorted (sortedB_nodup hs)) (mirN_sided h) 3) fun x => ?_
  rw [mirN_mem, turnN_mem]
  constructor
  · rintro ⟨b, hb, e⟩
    have hb' : b ∈ l := hb
    have hx : x = turnB (turnB (turnB (mirB b))) := by rw [← mir_turn (h b hb'), e, mirB_mirB]
    rw [hx]
    refine (turnN_mem _ _ 2).2 ⟨_, (turnN_mem _ _ 1).2 ⟨_, (turnN_mem _ _ 0).2 ⟨mirB b, ?_, rfl⟩, rfl⟩, rfl⟩
    show mirB b ∈ mirN l
    rw [mirN_mem, mirB_mirB]; exact hb'
  · intro hx
    obtain ⟨b2, h2, rfl⟩ := (turnN_mem _ _ 2).1 hx
    obtain ⟨b1, h1, rfl⟩ := (turnN_mem _ _ 1).1 h2
    obtain ⟨b0, h0, rfl⟩ := (turnN_mem _ _ 0).1 h1
    have h0' : mirB b0 ∈ l := (mirN_mem l b0).1 h0
    refine ⟨mirB b0, h0', ?_⟩
    have := mir_turn (h _ h0')
    rw [mirB_mirB] at this
    rw [← this, mirB_mirB]
theorem frm_turn {l : List Bar} (hs : l.Pairwise bltP) (h : ∀ b ∈ l, Sided b) {k : Nat} (hk : k < 8) : frm (turnN 1 l) k = frm l (if k < 4 then (k + 1) % 4 else 4 + (k - 4 + 3) % 4) := by
  have h4 := turnN_four hs h
  have hm4 := turnN_four (mirN_sorted (sortedB_nodup hs)) (mirN_sided h)
  have red : ∀ (X : List Bar), turnN 4 X = X → ∀ n, turnN (4 + n) X = turnN n X := fun X hX n => by rw [Nat.add_comm, ← turnN_add, hX]
  unfold frm
  by_cases h1 : k < 4
  · simp only [if_pos h1]
    rw [if_pos (by omega), turnN_add]
    by_cases h3 : k = 3
    · subst h3; rw [show (3 + 1) % 4 = 0 by rfl]; exact h4
    · rw [Nat.mod_eq_of_lt (by omega)]
  · simp only [if_neg h1]
    rw [if_neg (by omega), mirN_turn hs h, turnN_add, show 4 + (k - 4 + 3) % 4 - 4 = (k - 4 + 3) % 4 by omega]
    by_cases h5 : k = 4
    · subst h5; rfl
    · rw [show k - 4 + 3 = 4 + (k - 5) by omega, red _ hm4, Nat.add_mod_left, Nat.mod_eq_of_lt (by omega)]
theorem bst_turn1 {l : List Bar} (hs : l.Pairwise bltP) (h : ∀ b ∈ l, Sided b) : bst (turnN 1 l) 8 = bst l 8 :=
  bst_same (turnN_len l 1) (fun k hk => ⟨if k < 4 then (k + 1) % 4 else 4 + (k - 4 + 3) % 4, by split <;> omega, by rw [frm_turn hs h hk]⟩) fun k hk => by
    refine ⟨if k < 4 then (k + 3) % 4 else 4 + (k - 4 + 1) % 4, by split <;> omega, ?_⟩
    rw [frm_turn hs h (by split <;> omega)]
    congr 2
    split
    · rw [if_pos (by omega)]; omega
    · rw [if_neg (by omega)]; omega
theorem bst_turn {l : List Bar} (hs : l.Pairwise bltP) (h : ∀ b ∈ l, Sided b) : ∀ n, bst (turnN n l) 8 = bst l 8
  | 0 => rfl
  | n + 1 => by
    rw [show n + 1 = 1 + n by omega, ← turnN_add, bst_turn1 (turnN_sorted hs h n) (turnN_sided h n), bst_turn hs h n]
theorem frm_mir {l : List Bar} (hs : l.Pairwise bltP) {k : Nat} (hk : k < 8) : frm (mirN l) k = frm l (if k < 4 then k + 4 else k - 4) := by
  unfold frm
  by_cases h1 : k < 4
  · simp only [if_pos h1]
    rw [if_neg (by omega), show k + 4 - 4 = k by omega]
  · simp only [if_neg h1]
    rw [if_pos (by omega), mirN_mirN hs]
theorem bst_mir {l : List Bar} (hs : l.Pairwise bltP) : bst (mirN l) 8 = bst l 8 :=
  bst_same (by rw [mirN_eq, srtB_length, List.length_map]) (fun k hk => ⟨if k < 4 then k + 4 else k - 4, by split <;> omega, by rw [frm_mir hs hk]⟩) fun k hk => by
    refine ⟨if k < 4 then k + 4 else k - 4, by split <;> omega, ?_⟩
    rw [frm_mir hs (by split <;> omega)]
    congr 2
    split
    · rw [if_neg (by omega)]; omega
    · rw [if_pos (by omega)]; omega
theorem turn_back {l : List Bar} (hs : l.Pairwise bltP) (h : ∀ b ∈ l, Sided b) {m n : Nat} (e : (m + n) % 4 = 0) : turnN m (turnN n l) = l := by
  rw [turnN_add]
  obtain ⟨q, hq⟩ : ∃ q, m + n = 4 * q := ⟨(m + n) / 4, by omega⟩
  rw [hq]
  clear hq e
  induction q with
  | zero => rfl
  | succ q ih => rw [show 4 * (q + 1) = 4 * q + 4 by omega, ← turnN_add, turnN_four hs h, ih]
theorem mir_turn_back {l : List Bar} (hs : l.Pairwise bltP) (h : ∀ b ∈ l, Sided b) : turnN 1 (mirN (turnN 1 (mirN l))) = l := by
  have hm := mirN_sorted (sortedB_nodup hs)
  have hd := mirN_sided h
  rw [mirN_turn hm hd, mirN_mirN hs]
  exact turn_back hs h (by rfl)
end Go.Proofs.YtpompeancmonbaaGreat

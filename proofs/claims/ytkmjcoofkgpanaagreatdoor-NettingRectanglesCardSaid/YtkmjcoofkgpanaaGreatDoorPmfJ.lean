/- A net moved has the same numbers, plain. Conditions: none. -/
import Derived.Test.YtkmjcoofkgpanaaGreatDoorB21
import Derived.Test.YtkmjcoofkgpanaaGreatDoorPmeJ
namespace Go.Proofs.YtkmjcoofkgpanaaGreatDoor
open Go.RowKit Go.ChangeMaps
set_option maxHeartbeats 4000000
set_option maxRecDepth 100000

/-- the four bars of the mesh with a centre -/
def mshB (c : Knot) : Nat → Bar
  | 0 => (c.1, c.2 - 1, -1)
  | 1 => (c.1, c.2 - 1, 1)
  | 2 => (c.1 - 1, c.2, 1)
  | _ => (c.1 + 1, c.2, -1)
def MeshAt (l : List Bar) (c : Knot) : Prop := ∀ i, i < 4 → mshB c i ∈ l
theorem meshL_mem (l : List Bar) (c : Knot) : c ∈ meshL l l ↔ MeshAt l c := by
  unfold meshL
  rw [List.mem_map]
  constructor
  · rintro ⟨b, hb, rfl⟩
    obtain ⟨hb, hm⟩ := List.mem_filter.1 hb
    obtain ⟨h1, h2, h3, h4⟩ := (isMesh_iff l b).1 hm
    obtain ⟨x, y, s⟩ := b
    simp only at h1 h2 h3 h4
    subst h1
    intro i hi
    obtain rfl | rfl | rfl | rfl : i = 0 ∨ i = 1 ∨ i = 2 ∨ i = 3 := by omega
    · simp only [mshB]; rw [show y + 1 - 1 = y by omega]; exact hb
    · simp only [mshB]; rw [show y + 1 - 1 = y by omega]; exact h2
    · exact h3
    · exact h4
  · intro h
    refine ⟨mshB c 0, List.mem_filter.2 ⟨h 0 (by omega), (isMesh_iff l _).2 ⟨rfl, h 1 (by omega), ?_, ?_⟩⟩, ?_⟩
    · have := h 2 (by omega)
      simp only [mshB] at this ⊢
      rw [show c.2 - 1 + 1 = c.2 by omega]; exact this
    · have := h 3 (by omega)
      simp only [mshB] at this ⊢
      rw [show c.2 - 1 + 1 = c.2 by omega]; exact this
    · simp only [mshB]; rw [show c.2 - 1 + 1 = c.2 by omega]
theorem meshL_nodup {l : List Bar} (hn : l.Nodup) : (meshL l l).Nodup := by
  unfold meshL
  refine nodup_map (hn.filter _) fun a ha b hb e => ?_
  have h1 := ((isMesh_iff l a).1 (List.mem_filter.1 ha).2).1
  have h2 := ((isMesh_iff l b).1 (List.mem_filter.1 hb).2).1
  obtain ⟨x, y, s⟩ := a
  obtain ⟨x', y', s'⟩ := b
  simp only [Prod.mk.injEq] at *
  omega
/-- a motion of knots and of bars -/
structure Motion (g : Knot → Knot) (gB : Bar → Bar) : Prop where
  inj : ∀ u v, g u = g v → u = v
  surj : ∀ v, ∃ u, g u = v
  side : ∀ b, Sided b → Sided (gB b)
  ends : ∀ b, Sided b → Leads (gB b) (g (lowK b)) (g (uppK b))
  mesh : ∀ c j, j < 4 → ∃ i, i < 4 ∧ gB (mshB c i) = mshB (g c) j
  mesh' : ∀ c i, i < 4 → ∃ j, j < 4 ∧ gB (mshB c i) = mshB (g c) j
/-- a net is moved onto another one -/
def Moved (gB : Bar → Bar) (l l' : List Bar) : Prop := ∀ x, x ∈ l' ↔ ∃ b ∈ l, gB b = x
theorem bar_of_ends {a b : Bar} (hl : lowK a = lowK b) (hu : uppK a = uppK b) : a = b := by
  obtain ⟨x, y, s⟩ := a
  obtain ⟨x', y', s'⟩ := b
  unfold lowK uppK at *
  simp only [Prod.mk.injEq] at *
  omega
theorem leads_eq {b : Bar} {u v u' v' : Knot} (h : Leads b u v) (h' : Leads b u' v') : u = u' ∧ v = v' ∨ u = v' ∧ v = u' := by
  rcases h with ⟨rfl, rfl⟩ | ⟨rfl, rfl⟩ <;> rcases h' with ⟨rfl, rfl⟩ | ⟨rfl, rfl⟩
  · exact .inl ⟨rfl, rfl⟩
  · exact .inr ⟨rfl, rfl⟩
  · exact .inr ⟨rfl, rfl⟩
  · exact .inl ⟨rfl, rfl⟩
theorem Motion.injB {g : Knot → Knot} {gB : Bar → Bar} (M : Motion g gB) {a b : Bar} (ha : Sided a) (hb : Sided b) (h : gB a = gB b) : a = b := by
  have h1 := M.ends a ha
  have h2 := M.ends b hb
  rw [h] at h1
  rcases leads_eq h1 h2 with ⟨e1, e2⟩ | ⟨e1, e2⟩
  · exact bar_of_ends (M.inj _ _ e1) (M.inj _ _ e2)
  · have e1 := congrArg Prod.snd (M.inj _ _ e1)
    have e2 := congrArg Prod.snd (M.inj _ _ e2)
    unfold lowK uppK at e1 e2
    simp only at e1 e2
    omega
section
variable {g : Knot → Knot} {gB : Bar → Bar} {l l' : List Bar}
theorem Moved.mem (M : Motion g gB) (hd : ∀ b ∈ l, Sided b) (h : Moved gB l l') {b : Bar} (hb : Sided b) : gB b ∈ l' ↔ b ∈ l := by
  rw [h]
  constructor
  · rintro ⟨c, hc, e⟩
    rwa [← M.injB (hd c hc) hb e]
  · intro h; exact ⟨b, h, rfl⟩
theorem Moved.len (M : Motion g gB) (hd : ∀ b ∈ l, Sided b) (h : Moved gB l l') (hn : l.Nodup) (hn' : l'.Nodup) : l'.length = l.length := by
  have h1 := length_le_of_sub (l := l.map gB) (D := l') (nodup_map hn fun a ha b hb => M.injB (hd a ha) (hd b hb)) fun x hx => by
    obtain ⟨b, hb, rfl⟩ := List.mem_map.1 hx
    exact (h _).2 ⟨b, hb, rfl⟩
  have h2 := length_le_of_sub (l := l') (D := l.map gB) hn' fun x hx => List.mem_map.2 ((h x).1 hx)
  rw [List.length_map] at h1 h2
  omega
theorem Moved.knots (M : Motion g gB) (hd : ∀ b ∈ l, Sided b) (h : Moved gB l l') (k : Knot) : g k ∈ holeK l' ↔ k ∈ holeK l := by
  rw [holeK_ends, holeK_ends]
  constructor
  · rintro ⟨c, hc, e⟩
    obtain ⟨b, hb, rfl⟩ := (h c).1 hc
    refine ⟨b, hb, ?_⟩
    rcases M.ends b (hd b hb) with ⟨h1, h2⟩ | ⟨h1, h2⟩
    · rcases e with e | e
      · exact .inl (M.inj _ _ (e.trans h1.symm))
      · exact .inr (M.inj _ _ (e.trans h2.symm))
    · rcases e with e | e
      · exact .inr (M.inj _ _ (e.trans h2.symm))
      · exact .inl (M.inj _ _ (e.trans h1.symm))
  · rintro ⟨b, hb, e⟩
    refine ⟨gB b, (h _).2 ⟨b, hb, rfl⟩, ?_⟩
    rcases M.ends b (hd b hb) with ⟨h1, h2⟩ | ⟨h1, h2⟩
    · rcases e with rfl | rfl
      · exact .inl h1
      · exact .inr h2
    · rcases e with rfl | rfl
      · exact .inr h1
      · exact .inl h2
theorem same_len {α β : Type} [DecidableEq β] {A : List α} {B : List β} {f : α → β} (hA : A.Nodup) (hB : B.Nodup) (hi : ∀ a ∈ A, ∀ b ∈ A, f a = f b → a = b) (h : ∀ x, x ∈ B ↔ ∃ a ∈ A, f a = x) : B.length = A.length := by
  have h1 := length_le_of_sub (l := A.map f) (D := B) (nodup_map hA hi) fun x hx => (h x).2 (List.mem_map.1 hx)
  have h2 := length_le_of_sub (l := B) (D := A.map f) hB fun x hx => List.mem_map.2 ((h x).1 hx)
  rw [List.length_map] at h1 h2
  omega
theorem Moved.knots_iff (M : Motion g gB) (hd : ∀ b ∈ l, Sided b) (h : Moved gB l l') (x : Knot) : x ∈ holeK l' ↔ ∃ k ∈ holeK l, g k = x := by
  obtain ⟨k, rfl⟩ := M.surj x
  rw [h.knots M hd]
  constructor
  · intro h; exact ⟨k, h, rfl⟩
  · rintro ⟨k', hk', e⟩; rwa [← M.inj _ _ e]
theorem Moved.knots_len (M : Motion g gB) (hd : ∀ b ∈ l, Sided b) (h : Moved gB l l') : (holeK l').length = (holeK l).length :=
  same_len (sortedK_nodup (holeK_sorted l)) (sortedK_nodup (holeK_sorted l')) (fun a _ b _ e => M.inj a b e) (h.knots_iff M hd)
theorem Moved.meshes (M : Motion g gB) (hd : ∀ b ∈ l, Sided b) (h : Moved gB l l') (c : Knot) : MeshAt l' (g c) ↔ MeshAt l c := by
  have hs : ∀ i, Sided (mshB c i) := fun i => by
    match i with
    | 0 => exact .inr rfl
    | 1 => exact .inl rfl
    | 2 => exact .inl rfl
    | _ + 3 => exact .inr rfl
  constructor
  · intro hm i hi
    obtain ⟨j, hj, e⟩ := M.mesh' c i hi
    exact (h.mem M hd (hs i)).1 (by rw [e]; exact hm j hj)
  · intro hm j hj
    obtain ⟨i, hi, e⟩ := M.mesh c j hj
    rw [← e]
    exact (h.mem M hd (hs i)).2 (hm i hi)
theorem Moved.meshes_len (M : Motion g gB) (hd : ∀ b ∈ l, Sided b) (h : Moved gB l l') (hn : l.Nodup) (hn' : l'.Nodup) : (meshL l' l').length = (meshL l l).length :=
  same_len (meshL_nodup hn) (meshL_nodup hn') (fun a _ b _ e => M.inj a b e) fun x => by
    obtain ⟨c, rfl⟩ := M.surj x
    rw [meshL_mem, h.meshes M hd]
    constructor
    · intro h; exact ⟨c, (meshL_mem l c).2 h, rfl⟩
    · rintro ⟨k', hk', e⟩; rw [← M.inj _ _ e]; exact (meshL_mem l k').1 hk'
theorem Moved.kc (M : Motion g gB) (hd : ∀ b ∈ l, Sided b) (h : Moved gB l l') (u v : Knot) : KC l' (g u) (g v) ↔ KC l u v := by
  constructor
  · have key : ∀ x, KC l' (g u) x → ∀ v, g v = x → KC l u v := fun x hx => by
      induction hx with
      | refl => intro v e; rw [M.inj _ _ e]; exact .refl
      | step _ hm ht ih =>
        rename_i x w c _
        intro v e
        subst e
        obtain ⟨x0, rfl⟩ := M.surj x
        obtain ⟨b, hb, rfl⟩ := (h c).1 hm
        refine (ih x0 rfl).step hb ?_
        rcases leads_eq ht (M.ends b (hd b hb)) with ⟨e1, e2⟩ | ⟨e1, e2⟩
        · exact .inl ⟨M.inj _ _ e1, M.inj _ _ e2⟩
        · exact .inr ⟨M.inj _ _ e1, M.inj _ _ e2⟩
    exact fun hx => key _ hx v rfl
  · intro hx
    induction hx with
    | refl => exact .refl
    | step _ hm ht ih =>
      rename_i x w b _
      refine ih.step ((h _).2 ⟨b, hm, rfl⟩) ?_
      have := M.ends b (hd b hm)
      rcases ht with ⟨rfl, rfl⟩ | ⟨rfl, rfl⟩
      · exact this
      · exact this.symm
theorem Moved.parts_len (M : Motion g gB) (hd : ∀ b ∈ l, Sided b) (h : Moved gB l l') : (prtC l' l'.length).length = (prtC l l.length).length := by
  obtain ⟨f, hf⟩ := lab_ex l'
  have hg : Lab l (fun k => f (g k)) := fun u v => (hf _ _).trans (h.kc M hd u v)
  rw [Go.Proofs.YtkmjcoofkgpanaaGreatDoor.parts_len hf, Go.Proofs.YtkmjcoofkgpanaaGreatDoor.parts_len hg]
  refine nL_set fun x => ?_
  simp only [List.mem_map]
  constructor
  · rintro ⟨k, hk, rfl⟩
    obtain ⟨k0, hk0, rfl⟩ := (h.knots_iff M hd k).1 hk
    exact ⟨k0, hk0, rfl⟩
  · rintro ⟨k, hk, rfl⟩
    exact ⟨g k, (h.knots M hd k).2 hk, rfl⟩
theorem Moved.deg (M : Motion g gB) (hd : ∀ b ∈ l, Sided b) (h : Moved gB l l') (hn : l.Nodup) (hn' : l'.Nodup) (k : Knot) : degN l' (g k) = degN l k := by
  rw [degN_eq, degN_eq, List.countP_eq_length_filter, List.countP_eq_length_filter]
  refine same_len (f := gB) (hn.filter _) (hn'.filter _) (fun a ha b hb => M.injB (hd a (List.mem_filter.1 ha).1) (hd b (List.mem_filter.1 hb).1)) fun x => ?_
  have hat : ∀ b, Sided b → (atB (g k) (gB b) = true ↔ atB k b = true) := fun b hb => by
    unfold atB
    simp only [Bool.or_eq_true, decide_eq_true_eq]
    rcases M.ends b hb with ⟨h1, h2⟩ | ⟨h1, h2⟩
    · rw [← h1, ← h2]
      exact ⟨fun e => e.imp (M.inj _ _) (M.inj _ _), fun e => e.imp (congrArg g) (congrArg g)⟩
    · rw [← h1, ← h2]
      exact ⟨fun e => (e.imp (M.inj _ _) (M.inj _ _)).symm, fun e => (e.imp (congrArg g) (congrArg g)).symm⟩
  rw [List.mem_filter, h]
  constructor
  · rintro ⟨⟨b, hb, rfl⟩, ha⟩
    exact ⟨b, List.mem_filter.2 ⟨hb, (hat b (hd b hb)).1 ha⟩, rfl⟩
  · rintro ⟨b, hb, rfl⟩
    obtain ⟨hb, ha⟩ := List.mem_filter.1 hb
    exact ⟨⟨b, hb, rfl⟩, (hat b (hd b hb)).2 ha⟩
theorem Moved.legs (M : Motion g gB) (hd : ∀ b ∈ l, Sided b) (h : Moved gB l l') (hn : l.Nodup) (hn' : l'.Nodup) (d : Nat) : legC l' (holeK l') d = legC l (holeK l) d := by
  unfold legC
  refine same_len (f := g) ((sortedK_nodup (holeK_sorted l)).filter _) ((sortedK_nodup (holeK_sorted l')).filter _) (fun a _ b _ e => M.inj a b e) fun x => ?_
  rw [List.mem_filter, h.knots_iff M hd]
  constructor
  · rintro ⟨⟨k, hk, rfl⟩, e⟩
    rw [h.deg M hd hn hn'] at e
    exact ⟨k, List.mem_filter.2 ⟨hk, e⟩, rfl⟩
  · rintro ⟨k, hk, rfl⟩
    obtain ⟨hk, e⟩ := List.mem_filter.1 hk
    exact ⟨⟨k, hk, rfl⟩, by rw [h.deg M hd hn hn']; exact e⟩
end
/-! ## the three motions -/
def shK (d k : Knot) : Knot := (k.1 + d.1, k.2 + d.2)
theorem shift_motion (d : Knot) : Motion (shK d) (shB d) where
  inj u v e := by
    obtain ⟨a, b⟩ := u
    obtain ⟨a', b'⟩ := v
    unfold shK at e
    simp only [Prod.mk.injEq] at *
    omega
  surj v := ⟨(v.1 - d.1, v.2 - d.2), by unfold shK; simp [Int.sub_add_cancel]⟩
  side b h := h
  ends b _ := by
    left
    unfold shK shB lowK uppK
    simp only [Prod.mk.injEq, true_and]
    omega
  mesh c j hj := ⟨j, hj, by
    obtain rfl | rfl | rfl | rfl : j = 0 ∨ j = 1 ∨ j = 2 ∨ j = 3 := by omega
    all_goals (unfold shK shB mshB; simp only [Prod.mk.injEq, and_true, true_and] <;> omega)⟩
  mesh' c j hj := ⟨j, hj, by
    obtain rfl | rfl | rfl | rfl : j = 0 ∨ j = 1 ∨ j = 2 ∨ j = 3 := by omega
    all_goals (unfold shK shB mshB; simp only [Prod.mk.injEq, and_true, true_and] <;> omega)⟩
theorem mirror_motion : Motion mirK mirB where
  inj u v e := by
    obtain ⟨a, b⟩ := u
    obtain ⟨a', b'⟩ := v
    unfold mirK at e
    simp only [Prod.mk.injEq] at *
    omega
  surj v := ⟨mirK v, by unfold mirK; simp⟩
  side b h := mirB_sided h
  ends b _ := by
    left
    unfold mirK mirB lowK uppK
    simp only [Prod.mk.injEq, and_true, true_and]
    omega
  mesh c j hj := by
    obtain rfl | rfl | rfl | rfl : j = 0 ∨ j = 1 ∨ j = 2 ∨ j = 3 := by omega
    · exact ⟨1, by omega, by unfold mirK mirB mshB; simp only <;> omega⟩
    · exact ⟨0, by omega, by unfold mirK mirB mshB; simp only [Prod.mk.injEq, true_and] <;> omega⟩
    · exact ⟨3, by omega, by unfold mirK mirB mshB; simp only [Prod.mk.injEq, true_and] <;> omega⟩
    · exact ⟨2, by omega, by unfold mirK mirB mshB; simp only [Prod.mk.injEq, and_true] <;> omega⟩
  mesh' c j hj := by
    obtain rfl | rfl | rfl | rfl : j = 0 ∨ j = 1 ∨ j = 2 ∨ j = 3 := by omega
    · exact ⟨1, by omega, by unfold mirK mirB mshB; simp only [Prod.mk.injEq, true_and] <;> omega⟩
    · exact ⟨0, by omega, by unfold mirK mirB mshB; simp only <;> omega⟩
    · exact ⟨3, by omega, by unfold mirK mirB mshB; simp only [Prod.mk.injEq, and_true] <;> omega⟩
    · exact ⟨2, by omega, by unfold mirK mirB mshB; simp only [Prod.mk.injEq, true_and] <;> omega⟩
theorem turn_motion : Motion turnK turnB where
  inj u v e := by
    obtain ⟨a, b⟩ := u
    obtain ⟨a', b'⟩ := v
    unfold turnK at e
    simp only [Prod.mk.injEq] at *
    omega
  surj v := ⟨(v.2, -v.1), by unfold turnK; simp⟩
  side b h := turnB_sided h
  ends b h := by
    obtain ⟨x, y, s⟩ := b
    unfold Sided at h
    simp only at h
    obtain rfl | rfl := h
    · left; rw [turn_up]; unfold turnK lowK uppK; simp only [Prod.mk.injEq, and_true, true_and] <;> omega
    · right; rw [turn_dn]; unfold turnK lowK uppK; simp only [Prod.mk.injEq] <;> omega
  mesh c j hj := by
    obtain ⟨x, y⟩ := c
    obtain rfl | rfl | rfl | rfl : j = 0 ∨ j = 1 ∨ j = 2 ∨ j = 3 := by omega
    · exact ⟨2, by omega, by simp only [mshB, turnK, turn_up] <;> omega⟩
    · exact ⟨0, by omega, by simp only [mshB, turnK, turn_dn, Prod.mk.injEq, and_true] <;> omega⟩
    · exact ⟨3, by omega, by simp only [mshB, turnK, turn_dn, Prod.mk.injEq, and_true, true_and] <;> omega⟩
    · exact ⟨1, by omega, by simp only [mshB, turnK, turn_up, Prod.mk.injEq, and_true] <;> omega⟩
  mesh' c j hj := by
    obtain ⟨x, y⟩ := c
    obtain rfl | rfl | rfl | rfl : j = 0 ∨ j = 1 ∨ j = 2 ∨ j = 3 := by omega
    · exact ⟨1, by omega, by simp only [mshB, turnK, turn_dn, Prod.mk.injEq, and_true] <;> omega⟩
    · exact ⟨3, by omega, by simp only [mshB, turnK, turn_up, Prod.mk.injEq, and_true] <;> omega⟩
    · exact ⟨0, by omega, by simp only [mshB, turnK, turn_up] <;> omega⟩
    · exact ⟨2, by omega, by simp only [mshB, turnK, turn_dn, Prod.mk.injEq, and_true, true_and] <;> omega⟩
end Go.Proofs.YtkmjcoofkgpanaaGreatDoor

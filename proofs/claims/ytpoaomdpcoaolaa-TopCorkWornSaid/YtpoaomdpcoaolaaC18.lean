/- The bars of a sheet in the reference's order, plain. Conditions: none. -/
import Derived.Test.YtpoaomdpcoaolaaC14
import Derived.Test.YtpoaomdpcoaolaaC17
import Derived.Test.YtpoaomdpcoaolaaC13
import Derived.Test.YtpoaomdpcoaolaaC11
import Derived.Test.YtpoaomdpcoaolaaC12
import Derived.Test.YtpoaomdpcoaolaaC09
namespace Go.Proofs.Ytpoaomdpcoaolaa
open Go.RowKit Go.ChangeMaps
set_option maxHeartbeats 4000000
set_option maxRecDepth 100000

/-! ## the bars of a sheet, as the reference visits them -/
def evB (x y : Int) : Bool := decide ((x + y) % 2 = 0)
def rsT (x0 : Int) (c : Nat) (x y : Int) : Nat → List Bar
  | 0 => []
  | t + 1 => rsT x0 c x y t ++ if evB x y then sdB x0 c (x, y, 2 * (t : Int) - 1) else []
def rsI (x0 : Int) (c : Nat) (y : Int) : Nat → List Bar
  | 0 => []
  | m + 1 => rsI x0 c y m ++ rsT x0 c (x0 + (m : Int)) y 2
def rsN (x0 y0 : Int) (c : Nat) : Nat → List Bar
  | 0 => []
  | n + 1 => rsN x0 y0 c n ++ rsI x0 c (y0 + (n : Int)) (2 * c + 1)
theorem rsT_len (x0 : Int) (c : Nat) (x y : Int) : ∀ t, (rsT x0 c x y t).length ≤ t
  | 0 => Nat.le_refl _
  | t + 1 => by
    have := rsT_len x0 c x y t
    have := sdB_len x0 c (x, y, 2 * (t : Int) - 1)
    rw [rsT, List.length_append]
    split
    · omega
    · simp; omega
theorem rsI_len (x0 : Int) (c : Nat) (y : Int) : ∀ m, (rsI x0 c y m).length ≤ 2 * m
  | 0 => Nat.le_refl _
  | m + 1 => by
    have := rsI_len x0 c y m
    have := rsT_len x0 c (x0 + (m : Int)) y 2
    rw [rsI, List.length_append]; omega
theorem rsN_len (x0 y0 : Int) (c : Nat) : ∀ n, (rsN x0 y0 c n).length ≤ n * (2 * (2 * c + 1))
  | 0 => by simp [rsN]
  | n + 1 => by
    have := rsN_len x0 y0 c n
    have := rsI_len x0 c (y0 + (n : Int)) (2 * c + 1)
    rw [rsN, List.length_append, show (n + 1) * (2 * (2 * c + 1)) = n * (2 * (2 * c + 1)) + 2 * (2 * c + 1) from Nat.succ_mul _ _]
    omega
theorem evB_iff (x y : Int) : evB x y = true ↔ (x + y) % 2 = 0 := decide_eq_true_iff
theorem rsT_yes {x0 : Int} {c : Nat} {x y : Int} (h : (x + y) % 2 = 0) : ∀ t, rsT x0 c x y t = shT x0 c x y t
  | 0 => rfl
  | t + 1 => by rw [rsT, shT, rsT_yes h t, if_pos ((evB_iff x y).2 h)]
theorem rsT_no {x0 : Int} {c : Nat} {x y : Int} (h : (x + y) % 2 ≠ 0) : ∀ t, rsT x0 c x y t = []
  | 0 => rfl
  | t + 1 => by rw [rsT, rsT_no h t, if_neg (fun e => h ((evB_iff x y).1 e))]; rfl
theorem rsI_two {x0 : Int} (c : Nat) {y : Int} {n : Nat} (h : (x0 + y + (n % 2 : Nat)) % 2 = 0) : ∀ i : Nat, rsI x0 c y (2 * i + n % 2) = shI x0 c y n i
  | 0 => by
    rcases Nat.mod_two_eq_zero_or_one n with h1 | h1
    · rw [h1]; rfl
    · rw [h1] at h ⊢
      show rsI x0 c y 1 = []
      rw [rsI, rsT_no (by simp; omega)]; rfl
  | i + 1 => by
    have e : 2 * (i + 1) + n % 2 = (2 * i + n % 2) + 1 + 1 := by omega
    have hm : n % 2 < 2 := Nat.mod_lt _ (by decide)
    rw [e, rsI, rsI, rsI_two c h i, shI, rsT_yes (by omega), rsT_no (x := x0 + ((2 * i + n % 2 + 1 : Nat) : Int)) (by omega), List.append_nil]
    congr 2
    omega
theorem rsI_row {x0 : Int} (c : Nat) {y : Int} {n : Nat} (h : (x0 + y + (n % 2 : Nat)) % 2 = 0) : rsI x0 c y (2 * c + 1) = shI x0 c y n (c + 1 - n % 2) := by
  rcases Nat.mod_two_eq_zero_or_one n with h1 | h1
  · have h2 := rsI_two c h c
    rw [h1] at h2 h ⊢
    rw [rsI, show 2 * c = 2 * c + 0 from rfl, h2, show c + 1 - 0 = c + 1 from rfl, shI, h1, rsT_yes (by simp; omega)]
    congr 2
    simp
  · have h2 := rsI_two c h c
    rw [h1] at h2 ⊢
    exact h2
theorem rsN_eq {x0 y0 : Int} (c : Nat) (h : (x0 + y0) % 2 = 0) : ∀ n : Nat, rsN x0 y0 c n = shN x0 y0 c n
  | 0 => rfl
  | n + 1 => by
    rw [rsN, shN, rsN_eq c h n, rsI_row c (n := n)]
    omega
end Go.Proofs.Ytpoaomdpcoaolaa

/- Legs, parts and one bar less, plain. Conditions: the net is in its order. -/
namespace Go.Proofs.Ytpoaomdpcoaolaa
open Go.RowKit Go.ChangeMaps
set_option maxHeartbeats 4000000
set_option maxRecDepth 100000

/-! ## the numbers of the legs -/
theorem legC_cons (l : List Bar) (k : Knot) (K : List Knot) (d : Nat) : legC l (k :: K) d = legC l K d + if degN l k = d then 1 else 0 := by
  unfold legC
  rw [List.filter_cons]
  by_cases h : degN l k = d <;> simp [h]
theorem legs_sum (l : List Bar) : ∀ K : List Knot, (∀ k ∈ K, degN l k ≤ 4) → legC l K 0 + legC l K 1 + legC l K 2 + legC l K 3 + legC l K 4 = K.length
  | [], _ => rfl
  | k :: K, h => by
    have ih := legs_sum l K fun x hx => h x (List.mem_cons_of_mem _ hx)
    have h4 := h k List.mem_cons_self
    simp only [legC_cons, List.length_cons]
    obtain e | e | e | e | e : degN l k = 0 ∨ degN l k = 1 ∨ degN l k = 2 ∨ degN l k = 3 ∨ degN l k = 4 := by omega
    all_goals simp [e]; omega
theorem legs_deg (l : List Bar) : ∀ K : List Knot, (∀ k ∈ K, degN l k ≤ 4) → legC l K 1 + 2 * legC l K 2 + 3 * legC l K 3 + 4 * legC l K 4 = (K.map (degN l)).sum
  | [], _ => rfl
  | k :: K, h => by
    have ih := legs_deg l K fun x hx => h x (List.mem_cons_of_mem _ hx)
    have h4 := h k List.mem_cons_self
    simp only [legC_cons, List.map_cons, List.sum_cons]
    obtain e | e | e | e | e : degN l k = 0 ∨ degN l k = 1 ∨ degN l k = 2 ∨ degN l k = 3 ∨ degN l k = 4 := by omega
    all_goals simp [e]; omega
theorem sum_one {K : List Knot} (hn : K.Nodup) {a : Knot} (ha : a ∈ K) : (K.map fun k => if a = k then 1 else 0).sum = 1 := by
  induction K with
  | nil => cases ha
  | cons k r ih =>
    obtain ⟨h1, h2⟩ := List.nodup_cons.1 hn
    rw [List.map_cons, List.sum_cons]
    by_cases e : a = k
    · subst e
      have : ∀ {r : List Knot}, a ∉ r → (r.map fun k => if a = k then 1 else 0).sum = 0 := fun {r} => by
        induction r with
        | nil => intro _; rfl
        | cons x q ih => intro h; rw [List.map_cons, List.sum_cons, if_neg (fun e => h (by rw [e]; exact List.mem_cons_self)), ih fun e => h (List.mem_cons_of_mem _ e)]
      rw [if_pos rfl, this h1]
    · rw [if_neg e, ih h2 ((List.mem_cons.1 ha).resolve_left e)]
theorem sum_add {α : Type} (f g : α → Nat) : ∀ K : List α, (K.map fun k => f k + g k).sum = (K.map f).sum + (K.map g).sum
  | [] => rfl
  | k :: K => by simp only [List.map_cons, List.sum_cons, sum_add f g K]; omega
theorem deg_sum {K : List Knot} (hn : K.Nodup) : ∀ l : List Bar, (∀ b ∈ l, lowK b ∈ K ∧ uppK b ∈ K) → (K.map (degN l)).sum = 2 * l.length
  | [], _ => by
    have : ∀ K : List Knot, (K.map (degN [])).sum = 0 := fun K => by
      induction K with
      | nil => rfl
      | cons k r ih => rw [List.map_cons, List.sum_cons, ih, degN_eq]; rfl
    rw [this]; rfl
  | b :: l, h => by
    have ih := deg_sum hn l fun x hx => h x (List.mem_cons_of_mem _ hx)
    obtain ⟨h1, h2⟩ := h b List.mem_cons_self
    have e : (fun k => degN (b :: l) k) = fun k => degN l k + ((if lowK b = k then 1 else 0) + if uppK b = k then 1 else 0) := funext fun k => by
      rw [degN_eq, degN_eq, List.countP_cons]
      congr 1
      unfold atB
      by_cases h3 : lowK b = k
      · have h4 : uppK b ≠ k := fun h4 => up_ne_low (h3.trans h4.symm)
        simp [h3, h4]
      · by_cases h4 : uppK b = k <;> simp [h3, h4]
    rw [show K.map (degN (b :: l)) = K.map (fun k => degN (b :: l) k) from rfl, e, sum_add, sum_add, sum_one hn h1, sum_one hn h2, List.length_cons]
    have : (K.map fun k => degN l k).sum = 2 * l.length := ih
    omega
theorem leg_zero (l : List Bar) : legC l (holeK l) 0 = 0 := by
  unfold legC
  rw [List.length_eq_zero_iff, List.filter_eq_nil_iff]
  intro k hk h
  obtain ⟨b, hb, he⟩ := (holeK_ends l k).1 hk
  have h0 : degN l k = 0 := by simpa using h
  rw [degN_eq, List.countP_eq_zero] at h0
  refine h0 b hb ?_
  unfold atB
  rcases he with rfl | rfl <;> simp
theorem leg_le (l : List Bar) (K : List Knot) (d : Nat) : legC l K d ≤ K.length := List.length_filter_le _ _
theorem holeK_len (l : List Bar) : (holeK l).length ≤ 2 * l.length := by rw [← kIn_all (l := l) (Nat.le_refl _)]; exact kIn_len l (2 * l.length)
/-! ## the parts of a net: each bar, each knot once -/
theorem prt_inv (l : List Bar) : ∀ k, k ≤ l.length → (∀ P ∈ prtC l k, ∃ j, ∃ hj : j < l.length, j < k ∧ P = compL l l[j] ∧ P.head? = some l[j]) ∧
    (prtC l k).Pairwise fun P Q => (∃ i j, ∃ hi : i < l.length, ∃ hj : j < l.length, i < j ∧ P.head? = some l[i] ∧ Q.head? = some l[j]) ∧ ∀ x ∈ P, ∀ y ∈ Q, ¬ Conn l x y
  | 0, _ => ⟨fun P h => by simp [prtC] at h, by simp [prtC]⟩
  | k + 1, hk => by
    obtain ⟨h1, h2⟩ := prt_inv l k (by omega)
    have hlt : k < l.length := by omega
    have hlm := List.getElem_mem hlt
    rw [prtC_succ hlt]
    split
    · exact ⟨fun P hP => by obtain ⟨j, hj, a, b⟩ := h1 P hP; exact ⟨j, hj, by omega, b⟩, h2⟩
    · rename_i hm
      have hno : ∀ j (hj : j < l.length), j < k → ¬ Conn l l[j] l[k] := fun j hj hjk hc => hm ((prtC_flat l k (by omega) _).2 ⟨j, hj, hjk, hc⟩)
      have hh : (compL l l[k]).head? = some l[k] := by
        unfold compL
        rw [List.head?_filter, List.find?_eq_some_iff_append]
        refine ⟨by simpa using Conn.refl, l.take k, l.drop (k + 1), by rw [← List.drop_eq_getElem_cons hlt, List.take_append_drop], fun a ha => ?_⟩
        obtain ⟨i, hi, rfl⟩ := List.getElem_of_mem ha
        rw [List.length_take] at hi
        rw [List.getElem_take]
        have h3 : ¬ Conn l l[k] l[i] := fun hc => hno i (by omega) (by omega) (hc.symm hlm)
        simpa using h3
      refine ⟨fun P hP => ?_, List.pairwise_append.2 ⟨h2, by simp, fun P hP Q hQ => ?_⟩⟩
      · rcases List.mem_append.1 hP with hP | hP
        · obtain ⟨j, hj, a, b⟩ := h1 P hP
          exact ⟨j, hj, by omega, b⟩
        · obtain rfl : P = compL l l[k] := by simpa using hP
          exact ⟨k, hlt, by omega, rfl, hh⟩
      · obtain rfl : Q = compL l l[k] := by simpa using hQ
        obtain ⟨j, hj, hjk, rfl, hjh⟩ := h1 P hP
        refine ⟨⟨j, k, hj, hlt, hjk, hjh, hh⟩, fun x hx y hy hc => ?_⟩
        rw [compL_mem (List.getElem_mem hj)] at hx
        rw [compL_mem hlm] at hy
        exact hno j hj hjk ((hx.trans hc).trans (hy.symm hlm))
theorem prt_mem {l : List Bar} {x : Bar} : x ∈ (prtC l l.length).flatten ↔ x ∈ l := by
  rw [prtC_flat l _ (Nat.le_refl _)]
  constructor
  · rintro ⟨j, hj, _, h⟩; exact h.mem (List.getElem_mem hj)
  · intro h
    obtain ⟨j, hj, rfl⟩ := List.getElem_of_mem h
    exact ⟨j, hj, hj, .refl⟩
theorem part_facts {l : List Bar} (hs : l.Pairwise bltP) {P : List Bar} (hP : P ∈ prtC l l.length) : P ≠ [] ∧ P.Pairwise bltP ∧ ∀ x ∈ P, x ∈ l := by
  obtain ⟨j, hj, _, e, hh⟩ := (prt_inv l _ (Nat.le_refl _)).1 P hP
  refine ⟨fun h => (by rw [h] at hh; cases hh), (by rw [e]; exact compL_sorted hs _), fun x hx => ?_⟩
  rw [e] at hx
  unfold compL at hx
  exact (List.mem_filter.1 hx).1
theorem heads_up {l : List Bar} (hs : l.Pairwise bltP) : (prtC l l.length).Pairwise fun P Q => ∃ a b, P.head? = some a ∧ Q.head? = some b ∧ bltP a b :=
  (prt_inv l _ (Nat.le_refl _)).2.imp fun ⟨⟨i, j, hi, hj, hij, h1, h2⟩, _⟩ => ⟨_, _, h1, h2, List.pairwise_iff_getElem.1 hs i j hi hj hij⟩
theorem prt_nodup {l : List Bar} (hs : l.Pairwise bltP) : (prtC l l.length).flatten.Nodup := by
  unfold List.Nodup
  rw [List.pairwise_flatten]
  refine ⟨fun P hP => sortedB_nodup (part_facts hs hP).2.1, (prt_inv l _ (Nat.le_refl _)).2.imp fun ⟨_, h⟩ x hx y hy e => h x hx y hy (by rw [e]; exact .refl)⟩
theorem prt_len {l : List Bar} (hs : l.Pairwise bltP) : (prtC l l.length).flatten.length = l.length :=
  Nat.le_antisymm (length_le_of_sub (prt_nodup hs) fun _ hx => prt_mem.1 hx) (length_le_of_sub (sortedB_nodup hs) fun _ hx => prt_mem.2 hx)
theorem prt_set {l : List Bar} (hs : l.Pairwise bltP) : setB (prtC l l.length).flatten = l := sortedB_eq (setB_sorted _) hs fun x => by rw [setB_mem, prt_mem]
theorem prt_knots {l : List Bar} (hs : l.Pairwise bltP) : ((prtC l l.length).map fun P => (holeK P).length).sum = (holeK l).length := by
  have e : ((prtC l l.length).map fun P => (holeK P).length).sum = ((prtC l l.length).map holeK).flatten.length := by
    rw [List.length_flatten, List.map_map]; rfl
  have hmem : ∀ k, k ∈ ((prtC l l.length).map holeK).flatten ↔ k ∈ holeK l := fun k => by
    rw [List.mem_flatten]
    constructor
    · rintro ⟨K, hK, hk⟩
      obtain ⟨P, hP, rfl⟩ := List.mem_map.1 hK
      obtain ⟨b, hb, h⟩ := (holeK_ends P k).1 hk
      exact (holeK_ends l k).2 ⟨b, (part_facts hs hP).2.2 b hb, h⟩
    · intro hk
      obtain ⟨b, hb, h⟩ := (holeK_ends l k).1 hk
      obtain ⟨P, hP, hbP⟩ := List.mem_flatten.1 (prt_mem.2 hb)
      exact ⟨_, List.mem_map.2 ⟨P, hP, rfl⟩, (holeK_ends P k).2 ⟨b, hbP, h⟩⟩
  have hn : ((prtC l l.length).map holeK).flatten.Nodup := by
    unfold List.Nodup
    rw [List.pairwise_flatten, List.pairwise_map]
    refine ⟨fun K hK => ?_, ?_⟩
    · obtain ⟨P, _, rfl⟩ := List.mem_map.1 hK
      exact sortedK_nodup (holeK_sorted P)
    · refine List.Pairwise.imp_of_mem (fun {P Q} hP hQ h => ?_) (prt_inv l _ (Nat.le_refl _)).2
      intro u hu v hv e
      subst e
      obtain ⟨x, hx, h1⟩ := (holeK_ends P u).1 hu
      obtain ⟨y, hy, h2⟩ := (holeK_ends Q u).1 hv
      refine h.2 x hx y hy (Conn.refl.step ((part_facts hs hQ).2.2 y hy) ?_)
      unfold Tch
      rcases h1 with h1 | h1 <;> rcases h2 with h2 | h2
      · exact .inl (h1.symm.trans h2)
      · exact .inr (.inl (h1.symm.trans h2))
      · exact .inr (.inr (.inl (h1.symm.trans h2)))
      · exact .inr (.inr (.inr (h1.symm.trans h2)))
  rw [e]
  exact Nat.le_antisymm (length_le_of_sub hn fun x hx => (hmem x).1 hx) (length_le_of_sub (sortedK_nodup (holeK_sorted l)) fun x hx => (hmem x).2 hx)
theorem prt_pos {l : List Bar} (h : l ≠ []) : 1 ≤ (prtC l l.length).length := by
  cases hp : prtC l l.length with
  | nil =>
    cases l with
    | nil => exact absurd rfl h
    | cons b r =>
      have := (prt_mem (l := b :: r) (x := b)).2 List.mem_cons_self
      rw [hp] at this
      cases this
  | cons P Q => simp
/-! ## one bar less -/
theorem less_one {l : List Bar} (hs : l.Pairwise bltP) {b : Bar} (hb : b ∈ l) : l.length = (wout l [b]).length + 1 ∧ (∀ x, x ∈ l ↔ x = b ∨ x ∈ wout l [b]) ∧ (wout l [b]).Pairwise bltP := by
  have hn := sortedB_nodup hs
  have hm : ∀ x, x ∈ wout l [b] ↔ x ∈ l ∧ x ≠ b := fun x => by rw [wout_mem]; simp
  have h2 : ∀ x, x ∈ l ↔ x = b ∨ x ∈ wout l [b] := fun x => by
    rw [hm]
    by_cases e : x = b
    · subst e; simp [hb]
    · simp [e]
  have h3 : (wout l [b]).Pairwise bltP := hs.filter _
  have h4 : (b :: wout l [b]).Nodup := List.nodup_cons.2 ⟨fun h => ((hm b).1 h).2 rfl, sortedB_nodup h3⟩
  refine ⟨Nat.le_antisymm ?_ ?_, h2, h3⟩
  · have := length_le_of_sub (D := b :: wout l [b]) hn fun x hx => List.mem_cons.2 ((h2 x).1 hx)
    simpa using this
  · have := length_le_of_sub (D := l) h4 fun x hx => (h2 x).2 (List.mem_cons.1 hx)
    simpa using this
end Go.Proofs.Ytpoaomdpcoaolaa

/- A net's numbers, plain. Conditions: the net has no error. -/
namespace Go.Proofs.Ytpoaomdpcoaolaa
open Go.RowKit Go.ChangeMaps
set_option maxHeartbeats 4000000
set_option maxRecDepth 100000

/-- a net's numbers -/
structure Nums (l : List Bar) (kn bn mn pn : Nat) (hn : Int) : Prop where
  cnt : cntA l = #[.int .i64 kn, .int .i64 bn, .int .i64 mn, .int .i64 pn, .int .i64 hn]
  knots : (holeK l).length = kn
  bars : l.length = bn
  meshes : (meshL l l).length = mn
  parts : (partsL l).length = pn
  holes : hn = (bn : Int) - kn + pn - mn
  pos : 0 ≤ hn
  cyc : (mn : Int) + hn = cyc l
  kle : kn ≤ 2 * bn
  mle : mn ≤ bn
  ple : pn ≤ bn
theorem meshL_length (l m : List Bar) : (meshL l m).length = (m.filter (isMesh l)).length := by unfold meshL; rw [List.length_map]
theorem nums_of {l : List Bar} (hE : netE l = 0) : ∃ kn bn mn pn hn, Nums l kn bn mn pn hn := by
  have hok := netE_ok hE
  have hd : ∀ b ∈ l, Sided b := fun b hb => (hok.ok b hb).2.2
  have hp := partsL_eq hok.sorted hd
  have hm := mesh_le hok.sorted
  rw [← meshL_length] at hm
  have hc : ((meshL l l).length : Int) + ((l.length : Int) - (holeK l).length + (partsL l).length - (meshL l l).length) = cyc l := by
    unfold cyc
    rw [hp]
    omega
  refine ⟨(holeK l).length, l.length, (meshL l l).length, (partsL l).length, (l.length : Int) - (holeK l).length + (partsL l).length - (meshL l l).length, ?_, rfl, rfl, rfl, rfl, rfl, by omega, hc, holeK_len l, meshL_len l l, prtO_len l _⟩
  unfold cntA
  rw [if_pos hE]
structure LegNums (l : List Bar) (a b c d : Nat) : Prop where
  legs : legsR l = #[.int .i64 0, .int .i64 a, .int .i64 b, .int .i64 c, .int .i64 d]
  sum : a + b + c + d = (holeK l).length
  deg : a + 2 * b + 3 * c + 4 * d = 2 * l.length
theorem legs_of {l : List Bar} (hE : netE l = 0) : ∃ a b c d, LegNums l a b c d := by
  have hok := netE_ok hE
  have hd : ∀ b ∈ l, Sided b := fun b hb => (hok.ok b hb).2.2
  have h4 : ∀ k ∈ holeK l, degN l k ≤ 4 := fun k _ => degN_le hok.nodup hd k
  have h1 := legs_sum l (holeK l) h4
  have h2 := legs_deg l (holeK l) h4
  have h3 := deg_sum (sortedK_nodup (holeK_sorted l)) l (fun b hb => ⟨(holeK_ends l _).2 ⟨b, hb, .inl rfl⟩, (holeK_ends l _).2 ⟨b, hb, .inr rfl⟩⟩)
  have h0 := leg_zero l
  refine ⟨legC l (holeK l) 1, legC l (holeK l) 2, legC l (holeK l) 3, legC l (holeK l) 4, ?_, by omega, by omega⟩
  unfold legsR legA
  rw [if_pos hE, h0]
  rfl
/-- without one bar -/
theorem rank_of {l : List Bar} (hE : netE l = 0) {b : Bar} (hb : b ∈ l) {kn bn mn pn kn' bn' mn' pn' : Nat} {hn hn' : Int} (h : Nums l kn bn mn pn hn) (h' : Nums (wout l [b]) kn' bn' mn' pn' hn') :
    bn = bn' + 1 ∧ ((mn : Int) + hn - mn' - hn' = 0 ∨ (mn : Int) + hn - mn' - hn' = 1 ∧ kn' = kn ∧ pn' = pn) := by
  have hok := netE_ok hE
  obtain ⟨h1, h2, h3⟩ := less_one hok.sorted hb
  have hd : ∀ b ∈ l, Sided b := fun b hb => (hok.ok b hb).2.2
  have hd' : ∀ x ∈ wout l [b], Sided x := fun x hx => hd x ((h2 x).2 (.inr hx))
  have c1 := h.cyc
  have c2 := h'.cyc
  have e1 := h.bars
  have e2 := h'.bars
  have p1 := h.parts
  have p2 := h'.parts
  rw [partsL_eq hok.sorted hd] at p1
  rw [partsL_eq h3 hd'] at p2
  refine ⟨by omega, ?_⟩
  rcases cyc_more h1 h2 with q | ⟨q, q2, q3⟩
  · exact .inl (by omega)
  · exact .inr ⟨by omega, by rw [← h.knots, ← h'.knots, q2], by rw [← p1, ← p2, q3]⟩
/-- the knots of the first parts -/
def kSum (Ls : List (List Bar)) : Nat := (Ls.map fun P => (holeK P).length).sum
theorem kSum_take {Ls : List (List Bar)} {k : Nat} (h : k < Ls.length) : kSum (Ls.take (k + 1)) = kSum (Ls.take k) + (holeK Ls[k]).length := by
  unfold kSum
  rw [List.take_succ_eq_append_getElem h, List.map_append, List.sum_append]
  simp
structure PartsOk (l : List Bar) (Ls : List (List Bar)) : Prop where
  pos : 1 ≤ Ls.length
  net : ∀ P ∈ Ls, netE P = 0 ∧ P ≠ [] ∧ P.length ≤ l.length
  up : ∀ (i j : Nat) (hi : i < Ls.length) (hj : j < Ls.length), i < j → ∃ a b, Ls[i].head? = some a ∧ Ls[j].head? = some b ∧ bltP a b
  knots : kSum Ls = (holeK l).length
  len : Ls.flatten.length = l.length
  set : setB Ls.flatten = l
theorem parts_ok {l : List Bar} (hE : netE l = 0) (hl : l ≠ []) : PartsOk l (partsL l) := by
  have hok := netE_ok hE
  have hd : ∀ b ∈ l, Sided b := fun b hb => (hok.ok b hb).2.2
  rw [partsL_eq hok.sorted hd]
  refine ⟨prt_pos hl, fun P hP => ?_, fun i j hi hj hij => List.pairwise_iff_getElem.1 (heads_up hok.sorted) i j hi hj hij, prt_knots hok.sorted, prt_len hok.sorted, prt_set hok.sorted⟩
  obtain ⟨f1, f2, f3⟩ := part_facts hok.sorted hP
  exact ⟨netE_sub hE f2 f3, f1, length_le_of_sub (sortedB_nodup f2) f3⟩
theorem flat_take_le {Ls : List (List Bar)} (k : Nat) : (Ls.take k).flatten.length ≤ Ls.flatten.length := by
  conv => rhs; rw [← List.take_append_drop k Ls, List.flatten_append, List.length_append]
  omega
theorem kSum_le {Ls : List (List Bar)} (k : Nat) : kSum (Ls.take k) ≤ kSum Ls := by
  unfold kSum
  conv => rhs; rw [← List.take_append_drop k Ls, List.map_append, List.sum_append]
  omega
end Go.Proofs.Ytpoaomdpcoaolaa

/- What motions keep, plain. Conditions: bars within bounds. -/
namespace Go.Proofs.Ytpoaomdpcoaolaa
open Go.RowKit Go.ChangeMaps
set_option maxHeartbeats 4000000
set_option maxRecDepth 100000

/-- the bars of a net lie within bounds, on the lattice -/
def NearL (n : Int) (l : List Bar) : Prop := ∀ b ∈ l, (-n ≤ b.1 ∧ b.1 ≤ n) ∧ (-n ≤ b.2.1 ∧ b.2.1 ≤ n) ∧ (b.2.2 = 1 ∨ b.2.2 = -1) ∧ (b.1 + b.2.1) % 2 = 0
theorem farB_no {n : Int} (h : -100000 ≤ n ∧ n ≤ 100000) : farB n = false := by
  unfold farB
  rw [decide_eq_false (by omega), decide_eq_false (by omega)]
  rfl
theorem knotE_yes {x y : Int} (hx : -100000 ≤ x ∧ x ≤ 100000) (hy : -100000 ≤ y ∧ y ≤ 100000) (hp : (x + y) % 2 = 0) : knotE x y = 0 := by
  unfold knotE
  rw [farB_no hx, farB_no hy, if_neg (by simp), if_pos hp]
theorem NearL.bar {n : Int} {l : List Bar} (h : NearL n l) (hn : n ≤ 99000) : ∀ b ∈ l, barE b.1 b.2.1 b.2.2 = 0 := fun b hb => by
  obtain ⟨h1, h2, h3, h4⟩ := h b hb
  unfold barE
  rw [if_neg (by rw [knotE_yes (by omega) (by omega) h4]; simp), if_neg (by omega)]
  exact knotE_yes (by omega) (by omega) (by omega)
theorem NearL.net {n : Int} {l : List Bar} (h : NearL n l) (hn : n ≤ 99000) (hs : l.Pairwise bltP) (hl : l.length ≤ 4096) : netE l = 0 := netE_zero (h.bar hn) hs hl
theorem NearL.sided {n : Int} {l : List Bar} (h : NearL n l) : ∀ b ∈ l, Sided b := fun b hb => (h b hb).2.2.1
theorem NearL.mono {n m : Int} {l : List Bar} (h : NearL n l) (hn : n ≤ m) : NearL m l := fun b hb => by
  obtain ⟨h1, h2, h3, h4⟩ := h b hb
  exact ⟨by omega, by omega, h3, h4⟩
theorem NearL.shift {n m : Int} {l : List Bar} {d : Knot} (h : NearL n l) (h1 : -m ≤ d.1 ∧ d.1 ≤ m) (h2 : -m ≤ d.2 ∧ d.2 ≤ m) (hp : (d.1 + d.2) % 2 = 0) : NearL (n + m) (l.map (shB d)) := fun b hb => by
  obtain ⟨c, hc, rfl⟩ := List.mem_map.1 hb
  obtain ⟨q1, q2, q3, q4⟩ := h c hc
  unfold shB
  simp only
  exact ⟨by omega, by omega, q3, by omega⟩
theorem NearL.mir {n : Int} {l : List Bar} (h : NearL n l) : NearL n (mirN l) := fun b hb => by
  obtain ⟨q1, q2, q3, q4⟩ := h _ ((mirN_mem l b).1 hb)
  unfold mirB at q1 q2 q3 q4
  simp only at q1 q2 q3 q4
  exact ⟨by omega, q2, by omega, by omega⟩
theorem NearL.turn {n : Int} {l : List Bar} (h : NearL n l) : ∀ k : Nat, NearL (n + k) (turnN k l)
  | 0 => by
    have e : turnN 0 l = l := rfl
    rw [e]; exact h.mono (by omega)
  | k + 1 => fun x hx => by
    obtain ⟨b, hb, rfl⟩ := (turnN_mem l x k).1 hx
    obtain ⟨q1, q2, q3, q4⟩ := h.turn k b hb
    rw [turnB_of q3]
    split
    · simp only; exact ⟨by omega, by omega, by simp, by omega⟩
    · simp only; exact ⟨by omega, by omega, by simp, by omega⟩
theorem NearL.frm {n : Int} {l : List Bar} (h : NearL n l) {k : Nat} (hk : k < 8) : NearL (n + 8) (frm l k) := by
  unfold Go.Proofs.Ytpoaomdpcoaolaa.frm
  split
  · exact (h.turn k).mono (by omega)
  · exact (h.mir.turn (k - 4)).mono (by omega)
theorem NearL.nrm {n : Int} {l : List Bar} (h : NearL n l) (hn : n ≤ 40000) : allIn (nrm l) = true := by
  unfold allIn
  rw [List.all_eq_true]
  intro x hx
  cases l with
  | nil => simp [Go.Proofs.Ytpoaomdpcoaolaa.nrm] at hx
  | cons a r =>
    obtain ⟨p1, p2, p3, p4⟩ := h a (List.mem_cons_self ..)
    unfold Go.Proofs.Ytpoaomdpcoaolaa.nrm at hx
    obtain ⟨c, hc, rfl⟩ := List.mem_map.1 hx
    obtain ⟨q1, q2, q3, q4⟩ := h c hc
    unfold inB shB hdK
    simp only
    rw [farB_no (by omega), farB_no (by omega), farB_no (by omega), farB_no (by omega)]
    rfl
theorem NearL.all {n : Int} {l : List Bar} (h : NearL n l) (hn : n ≤ 30000) : ∀ k, k ≤ 8 → allN l k = true
  | 0, _ => rfl
  | k + 1, hk => by rw [allN, h.all hn k (by omega), (h.frm (by omega)).nrm (by omega)]; rfl
theorem can_near {n : Int} {l : List Bar} (h : NearL n l) (hn : n ≤ 30000) (hE : netE l = 0) : canE l = 0 ∧ canL l = bst l 8 := by
  by_cases e : l = []
  · have h8 : bst l 8 = [] := List.eq_nil_of_length_eq_zero (by have := bst_len l 8; rw [e] at this ⊢; simpa using this)
    unfold canE canL
    rw [if_neg (by omega), if_pos e, if_pos (.inr e), h8]
    exact ⟨rfl, rfl⟩
  · unfold canE canL
    rw [if_neg (by omega), if_neg e, if_pos (h.all hn 8 (Nat.le_refl 8)), if_neg (by rintro (q | q); exact q hE; exact e q), if_pos (h.all hn 8 (Nat.le_refl 8))]
    exact ⟨rfl, rfl⟩
/-- what motions keep -/
structure Inv (l l' : List Bar) : Prop where
  len : l'.length = l.length
  knots : (holeK l').length = (holeK l).length
  meshes : (meshL l' l').length = (meshL l l).length
  parts : (partsL l').length = (partsL l).length
  legs : ∀ d, legC l' (holeK l') d = legC l (holeK l) d
  form : bst l' 8 = bst l 8
theorem Inv.trans {a b c : List Bar} (h : Inv a b) (h' : Inv b c) : Inv a c := ⟨h'.len.trans h.len, h'.knots.trans h.knots, h'.meshes.trans h.meshes, h'.parts.trans h.parts, fun d => (h'.legs d).trans (h.legs d), h'.form.trans h.form⟩
theorem inv_of {g : Knot → Knot} {gB : Bar → Bar} (M : Motion g gB) {l l' : List Bar} (hs : l.Pairwise bltP) (hs' : l'.Pairwise bltP) (hd : ∀ b ∈ l, Sided b) (hd' : ∀ b ∈ l', Sided b) (h : Moved gB l l') (hf : bst l' 8 = bst l 8) : Inv l l' :=
  ⟨h.len M hd (sortedB_nodup hs) (sortedB_nodup hs'), h.knots_len M hd, h.meshes_len M hd (sortedB_nodup hs) (sortedB_nodup hs'), by rw [partsL_eq hs' hd', partsL_eq hs hd, h.parts_len M hd], h.legs M hd (sortedB_nodup hs) (sortedB_nodup hs'), hf⟩
theorem inv_shift {l : List Bar} (hs : l.Pairwise bltP) (hd : ∀ b ∈ l, Sided b) (d : Knot) : Inv l (l.map (shB d)) :=
  inv_of (shift_motion d) hs (shift_sorted hs d) hd (shift_sided hd d) (fun _ => List.mem_map) (bst_shift hs hd d)
theorem inv_mir {l : List Bar} (hs : l.Pairwise bltP) (hd : ∀ b ∈ l, Sided b) : Inv l (mirN l) :=
  inv_of mirror_motion hs (mirN_sorted (sortedB_nodup hs)) hd (mirN_sided hd) (fun x => by
    rw [mirN_mem]
    exact ⟨fun h => ⟨mirB x, h, mirB_mirB x⟩, fun ⟨b, hb, e⟩ => by rw [← e, mirB_mirB]; exact hb⟩) (bst_mir hs)
theorem inv_turn1 {l : List Bar} (hs : l.Pairwise bltP) (hd : ∀ b ∈ l, Sided b) : Inv l (turnN 1 l) :=
  inv_of turn_motion hs (turnN_sorted hs hd 1) hd (turnN_sided hd 1) (fun x => turnN_mem l x 0) (bst_turn1 hs hd)
theorem Inv.refl (l : List Bar) : Inv l l := ⟨rfl, rfl, rfl, rfl, fun _ => rfl, rfl⟩
theorem inv_turn {l : List Bar} (hs : l.Pairwise bltP) (hd : ∀ b ∈ l, Sided b) : ∀ k, Inv l (turnN k l)
  | 0 => Inv.refl l
  | k + 1 => by
    have h1 := inv_turn hs hd k
    have h2 := inv_turn1 (turnN_sorted hs hd k) (turnN_sided hd k)
    rw [turnN_add, show 1 + k = k + 1 by omega] at h2
    exact h1.trans h2
theorem Inv.cnt {l l' : List Bar} (h : Inv l l') (h1 : netE l = 0) (h2 : netE l' = 0) : cntA l' = cntA l := by
  unfold cntA
  rw [if_pos h1, if_pos h2, h.len, h.knots, h.meshes, h.parts]
theorem Inv.leg {l l' : List Bar} (h : Inv l l') (h1 : netE l = 0) (h2 : netE l' = 0) : legsR l' = legsR l := by
  unfold legsR legA
  rw [if_pos h1, if_pos h2]
  simp only [h.legs]
theorem shift_back (l : List Bar) (x y : Int) : (l.map (shB (x, y))).map (shB (-x, -y)) = l := by
  rw [List.map_map]
  have : (shB (-x, -y) ∘ shB (x, y)) = id := by
    funext b
    obtain ⟨p, q, s⟩ := b
    simp only [Function.comp, shB, id]
    rw [show p + x + -x = p by omega, show q + y + -y = q by omega]
  rw [this, List.map_id]
theorem qN_neg (q : Int) : (qN (-q) + qN q) % 4 = 0 := by
  have h1 := Int.neg_tmod q 4
  have h2 : -4 < q.tmod 4 ∧ q.tmod 4 < 4 := by
    have a := Int.tmod_lt_of_pos q (b := 4) (by omega)
    have b := Int.tmod_lt_of_pos (-q) (b := 4) (by omega)
    omega
  have h3 : ∀ z : Int, 0 ≤ z → z.tmod 4 = z % 4 := fun z hz => Int.tmod_eq_emod_of_nonneg hz
  unfold qN
  rw [h1, h3 (-(q.tmod 4) + 4) (by omega), h3 (q.tmod 4 + 4) (by omega)]
  omega
end Go.Proofs.Ytpoaomdpcoaolaa

/- Motions of a net: what the law looks at; numbers, legs, forms, shifts without errors. Conditions: the net has no error. -/
namespace Go.Proofs.Ytpoaomdpcoaolaa
open Go.RowKit Go.ChangeMaps
set_option maxHeartbeats 4000000
set_option maxRecDepth 100000

theorem aCount {v : Value} (l : List Bar) (w : World) (h : SlB w v l) (hE : netE l = 0) : Calls Try.prog 21 #[v] w (RLE w (cntA l) 0) := by
  have := apiCount_any l w h
  rwa [hE] at this
theorem aShift {v : Value} (l : List Bar) (x y : Int) (w : World) (h : SlB w v l) (hE : netE l = 0) (hk : knotE x y = 0) (ha : allIn (l.map (shB (x, y))) = true) : Calls Try.prog 7 #[v, .agg #[.int .i64 x, .int .i64 y]] w (RBE w (l.map (shB (x, y))) 0) := by
  have h1 : degE l x y = 0 := by unfold degE; rw [hE, hk]; rfl
  have e1 : shiftE l x y = 0 := by unfold shiftE shE; rw [if_pos h1]; simp [ha]
  have e2 : shiftL l x y = l.map (shB (x, y)) := by unfold shiftL shL; rw [if_pos h1]; simp [ha]
  have := apiShift_any l x y w h
  rwa [e1, e2] at this
theorem NearL.inn {n : Int} {l : List Bar} (h : NearL n l) (hn : n ≤ 90000) : allIn l = true := by
  unfold allIn
  rw [List.all_eq_true]
  intro b hb
  obtain ⟨h1, h2, h3, h4⟩ := h b hb
  unfold inB
  rw [farB_no (by omega), farB_no (by omega), farB_no (by omega), farB_no (by omega)]
  rfl
/-- what a motion of a net has in common with the net -/
structure Like (l X : List Bar) : Prop where
  net : netE X = 0
  cnt : cntA X = cntA l
  legs : legsR X = legsR l
  can : canL X = canL l
  canE : canE X = 0
  len : X.length = l.length
theorem like_of {l X : List Bar} (hl : NearL 1000 l) (hE : netE l = 0) (hX : NearL 3000 X) (hs : X.Pairwise bltP) (hI : Inv l X) (hlen : l.length ≤ 20) : Like l X := by
  have h1 : netE X = 0 := hX.net (by omega) hs (by rw [hI.len]; omega)
  have c1 := can_near (hl.mono (m := 3000) (by omega)) (by omega) hE
  have c2 := can_near hX (by omega) h1
  exact ⟨h1, hI.cnt hE h1, hI.leg hE h1, by rw [c1.2, c2.2, hI.form], c2.1, hI.len⟩
theorem near_of {l : List Bar} (hE : netE l = 0) (h : ∀ b ∈ l, (-1000 ≤ b.1 ∧ b.1 ≤ 1000) ∧ (-1000 ≤ b.2.1 ∧ b.2.1 ≤ 1000)) : NearL 1000 l := fun b hb => by
  have h1 := netE_bars hE b hb
  have h2 := ((netE_ok hE).ok b hb).2.2
  have h3 : knotE b.1 b.2.1 = 0 := by
    unfold barE at h1
    split at h1
    · rename_i q; exact absurd h1 q
    · rename_i q; exact Decidable.byContradiction fun e => q e
  exact ⟨(h b hb).1, (h b hb).2, h2, (knotE_zero h3).2.2.2.2⟩
/-- all that the law looks at -/
structure Turns (l : List Bar) (x y q : Int) : Prop where
  s : Like l (l.map (shB (x, y)))
  m : Like l (mirN l)
  t : Like l (turnN (qN q) l)
  can : canE l = 0
  inn : allIn (l.map (shB (x, y))) = true
  sBack : (l.map (shB (x, y))).map (shB (-x, -y)) = l
  innB : allIn l = true
  mBack : mirN (mirN l) = l
  tBack : turnN (qN (-q)) (turnN (qN q) l) = l
  once : netE (turnN 1 (mirN l)) = 0
  twice : netE (mirN (turnN 1 (mirN l))) = 0
  back : turnN 1 (mirN (turnN 1 (mirN l))) = l
  len1 : (turnN 1 (mirN l)).length = l.length
  len2 : (mirN (turnN 1 (mirN l))).length = l.length
theorem qN_le (q : Int) : qN q ≤ 3 := by
  have h1 := Int.tmod_lt_of_pos (q.tmod 4 + 4) (b := 4) (by decide)
  unfold qN
  omega
theorem turns_of {l : List Bar} {x y q : Int} (hE : netE l = 0) (hN : NearL 1000 l) (hlen : l.length ≤ 20) (hx : -1000 ≤ x ∧ x ≤ 1000) (hy : -1000 ≤ y ∧ y ≤ 1000) (hk : knotE x y = 0) : Turns l x y q := by
  have hok := netE_ok hE
  have hs := hok.sorted
  have hd := hN.sided
  have hp := (knotE_zero hk).2.2.2.2
  have ns : NearL (1000 + 1000) (l.map (shB (x, y))) := hN.shift hx hy hp
  have nm := hN.mir
  have q3 := qN_le q
  have nt := hN.turn (qN q)
  have n1 := nm.turn 1
  have n2 := n1.mir
  have sm := mirN_sorted hok.nodup
  have dm := mirN_sided hd
  have s1 := turnN_sorted sm dm 1
  have s2 := mirN_sorted (sortedB_nodup s1)
  have L1 : (turnN 1 (mirN l)).length = l.length := by rw [turnN_len, mirN_eq, srtB_length, List.length_map]
  have L2 : (mirN (turnN 1 (mirN l))).length = l.length := by rw [mirN_eq, srtB_length, List.length_map, L1]
  exact {
    s := like_of hN hE (ns.mono (by omega)) (shift_sorted hs _) (inv_shift hs hd _) hlen
    m := like_of hN hE (nm.mono (by omega)) sm (inv_mir hs hd) hlen
    t := like_of hN hE (nt.mono (by omega)) (turnN_sorted hs hd _) (inv_turn hs hd _) hlen
    can := (can_near (hN.mono (m := 3000) (by omega)) (by omega) hE).1
    inn := ns.inn (by omega)
    sBack := shift_back l x y
    innB := hN.inn (by omega)
    mBack := mirN_mirN hs
    tBack := turn_back hs hd (qN_neg q)
    once := n1.net (by omega) s1 (by omega)
    twice := n2.net (by omega) s2 (by omega)
    back := mir_turn_back hs hd
    len1 := L1
    len2 := L2 }
end Go.Proofs.Ytpoaomdpcoaolaa

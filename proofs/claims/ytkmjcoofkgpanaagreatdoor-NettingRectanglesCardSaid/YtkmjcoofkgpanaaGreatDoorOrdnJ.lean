/- Orders of big regions, shown step by step. Conditions: none. -/
import Derived.Test.YtkmjcoofkgpanaaGreatDoorB21
import Derived.Test.YtkmjcoofkgpanaaGreatDoorB01
import Derived.Test.YtkmjcoofkgpanaaGreatDoorProg
namespace Go.Proofs.YtkmjcoofkgpanaaGreatDoor
set_option maxRecDepth 100000

def findOps (n : Nat) : Code → Option (Array Oper)
  | .region id ops _ => if id = n then some ops else none
  | .seq a b => match findOps n a with
    | some c => some c
    | none => findOps n b
  | .cond _ a b => match findOps n a with
    | some c => some c
    | none => findOps n b
  | .block _ a => findOps n a
  | .loop a => findOps n a
  | .scope a => findOps n a
  | _ => none
noncomputable def opsOf (f : Func) (n : Nat) : Array Oper := (f.body.bind (findOps n)).getD #[]
section
variable {md : Region.Mode} {ops : Array Oper} {post r : List Nat} {mid : List (Nat × Bool)} {i : Nat} {L L' : Array Bool}
theorem seqOne_c (h : Region.ready md ops L = [i]) (hL : L.setIfInBounds i true = L') (hr : seqOne md ops r L' = true) : seqOne md ops (i :: r) L = true := by
  subst hL; unfold seqOne; rw [hr, h]; simp
theorem seqMid_nil (hr : seqOne md ops post L = true) : seqMid md ops post [] L = true := hr
theorem seqMid_f (h : Region.ready md ops L = [i]) (hL : L.setIfInBounds i true = L') (hr : seqMid md ops post mid L' = true) : seqMid md ops post ((i, false) :: mid) L = true := by
  subst hL; unfold seqMid; rw [hr, h]; simp
/-- j waits for i, shown by a way -/
def wEdge (md : Region.Mode) (ops : Array Oper) (a b : Nat) : Bool := match ops[a]? with
  | some o => o.after.any fun e => Region.binds md e && e.on == b
  | none => false
def wPath (md : Region.Mode) (ops : Array Oper) (i : Nat) : List Nat → Bool
  | [] => false
  | [a] => a == i
  | a :: b :: r => wEdge md ops a b && wPath md ops i (b :: r)
theorem waits_path : ∀ (p : List Nat) (a f : Nat), p ≠ [] → wPath md ops i (a :: p) = true → p.length ≤ f → waitsN md ops f a i = true
  | [], _, _, h, _, _ => absurd rfl h
  | b :: r, a, 0, _, _, hf => by simp at hf
  | b :: r, a, f + 1, _, h, hf => by
    simp only [wPath, Bool.and_eq_true] at h
    obtain ⟨he, hr⟩ := h
    unfold wEdge at he
    unfold waitsN
    cases ho : ops[a]? with
    | none => rw [ho] at he; cases he
    | some o =>
      rw [ho] at he
      rw [Array.any_eq_true'] at he ⊢
      obtain ⟨e, hm, hq⟩ := he
      rw [Bool.and_eq_true, beq_iff_eq] at hq
      refine ⟨e, hm, ?_⟩
      rw [hq.1, hq.2, Bool.true_and]
      cases r with
      | nil =>
        simp only [wPath] at hr
        rw [hr]; rfl
      | cons c r' =>
        rw [waits_path (c :: r') b f (by simp) hr (by simpa using hf)]
        simp
/-- each of post waits for i -/
def wAll (md : Region.Mode) (ops : Array Oper) (i : Nat) : List Nat → List (List Nat) → Bool
  | [], _ => true
  | _ :: _, [] => false
  | j :: r, p :: ps => decide (p ≠ []) && wPath md ops i (j :: p) && decide (p.length ≤ ops.size) && wAll md ops i r ps
theorem wAll_mem : ∀ (post : List Nat) (ps : List (List Nat)), wAll md ops i post ps = true → ∀ j ∈ post, waitsN md ops ops.size j i = true
  | [], _, _, j, hj => by simp at hj
  | _ :: _, [], h, _, _ => by cases h
  | k :: r, p :: ps, h, j, hj => by
    simp only [wAll, Bool.and_eq_true, decide_eq_true_eq] at h
    obtain ⟨⟨⟨h1, h2⟩, h3⟩, h4⟩ := h
    rcases List.mem_cons.1 hj with rfl | hj
    · exact waits_path p j _ h1 h2 h3
    · exact wAll_mem r ps h4 j hj
theorem takeB_c (ps : List (List Nat)) (h1 : (Region.ready md ops L).contains i = true) (h2 : Region.free md ops L i = true) (h3 : (match ops[i]? with | some o => pureOp o.op | none => false) = true) (h4 : wAll md ops i post ps = true) : takeB md ops post i L = true := by
  unfold takeB
  simp only [Bool.and_eq_true]
  refine ⟨⟨⟨h1, h2⟩, h3⟩, ?_⟩
  rw [List.all_eq_true]
  intro j _
  cases hj : post.contains j
  · simp
  · rw [wAll_mem post ps h4 j (by simpa using hj)]
    simp
theorem seqMid_t (h : takeB md ops post i L = true) (hL : L.setIfInBounds i true = L') (hr : seqMid md ops post mid L' = true) : seqMid md ops post ((i, true) :: mid) L = true := by
  subst hL; unfold seqMid; rw [hr, h]; simp
theorem seqPre_nil (hr : seqMid md ops post mid L = true) : seqPre md ops mid post [] L = true := hr
theorem seqPre_c (h : takeB md ops post i L = true) (hL : L.setIfInBounds i true = L') (hr : seqPre md ops mid post r L' = true) : seqPre md ops mid post (i :: r) L = true := by
  subst hL; unfold seqPre; rw [hr, h]; simp
theorem ordB_c (h1 : Region.noSelect ops = true) (h2 : ops.size = r.length + mid.length + post.length) (hL : Array.replicate ops.size false = L) (hr : seqPre md ops mid post r L = true) : ordB md ops r mid post = true := by
  subst hL; unfold ordB; rw [h1, hr]; simp [h2]
end

theorem ord_touches_27 : seqOne .any (opsOf Tryz.f132 1) [] #[true, true, true, true, true, true, true, true, true, true, true, true, true, true, true, true, true, true, true, true, true, true, true, true, true, true, true] = true := by kernel_rfl
theorem ord_touches_26 : seqOne .any (opsOf Tryz.f132 1) [26] #[true, true, true, true, true, true, true, true, true, true, true, true, true, true, true, true, true, true, true, true, true, true, true, true, true, true, false] = true := seqOne_c (by kernel_rfl) (by kernel_rfl) ord_touches_27
theorem ord_touches_25 : seqOne .any (opsOf Tryz.f132 1) [25, 26] #[true, true, true, true, true, true, true, true, true, true, true, true, true, true, true, true, true, true, true, true, true, true, true, true, true, false, false] = true := seqOne_c (by kernel_rfl) (by kernel_rfl) ord_touches_26
theorem ord_touches_24 : seqOne .any (opsOf Tryz.f132 1) [24, 25, 26] #[true, true, true, true, true, true, true, true, true, true, true, true, true, true, true, true, true, true, true, true, true, true, true, true, false, false, false] = true := seqOne_c (by kernel_rfl) (by kernel_rfl) ord_touches_25
theorem ord_touches_23 : seqOne .any (opsOf Tryz.f132 1) [23, 24, 25, 26] #[true, true, true, true, true, true, true, true, true, true, true, true, true, true, true, true, true, true, true, true, true, true, true, false, false, false, false] = true := seqOne_c (by kernel_rfl) (by kernel_rfl) ord_touches_24
theorem ord_touches_22 : seqMid .any (opsOf Tryz.f132 1) [23, 24, 25, 26] [(21, false)] #[true, true, true, true, true, true, true, true, true, true, true, true, true, true, true, true, true, true, true, true, true, false, true, false, false, false, false] = true := seqMid_f (by kernel_rfl) (by kernel_rfl) (seqMid_nil ord_touches_23)
theorem ord_touches_21 : seqMid .any (opsOf Tryz.f132 1) [23, 24, 25, 26] [(22, true), (21, false)] #[true, true, true, true, true, true, true, true, true, true, true, true, true, true, true, true, true, true, true, true, true, false, false, false, false, false, false] = true := seqMid_t (takeB_c [[22], [23, 22], [24, 23, 22], [22]] (by kernel_rfl) (by kernel_rfl) (by kernel_rfl) (by kernel_rfl)) (by kernel_rfl) ord_touches_22
theorem ord_touches_20 : seqMid .any (opsOf Tryz.f132 1) [23, 24, 25, 26] [(20, true), (22, true), (21, false)] #[true, true, true, true, true, true, true, true, true, true, true, true, true, true, true, true, true, true, true, true, false, false, false, false, false, false, false] = true := seqMid_t (takeB_c [[21, 20], [21, 20], [24, 21, 20], [20]] (by kernel_rfl) (by kernel_rfl) (by kernel_rfl) (by kernel_rfl)) (by kernel_rfl) ord_touches_21
theorem ord_touches_19 : seqMid .any (opsOf Tryz.f132 1) [23, 24, 25, 26] [(19, false), (20, true), (22, true), (21, false)] #[true, true, true, true, true, true, true, true, true, true, true, true, true, true, true, true, true, true, true, false, false, false, false, false, false, false, false] = true := seqMid_f (by kernel_rfl) (by kernel_rfl) ord_touches_20
theorem ord_touches_18 : seqMid .any (opsOf Tryz.f132 1) [23, 24, 25, 26] [(18, false), (19, false), (20, true), (22, true), (21, false)] #[true, true, true, true, true, true, true, true, true, true, true, true, true, true, true, true, true, true, false, false, false, false, false, false, false, false, false] = true := seqMid_f (by kernel_rfl) (by kernel_rfl) ord_touches_19
theorem ord_touches_17 : seqMid .any (opsOf Tryz.f132 1) [23, 24, 25, 26] [(17, false), (18, false), (19, false), (20, true), (22, true), (21, false)] #[true, true, true, true, true, true, true, true, true, true, true, true, true, true, true, true, true, false, false, false, false, false, false, false, false, false, false] = true := seqMid_f (by kernel_rfl) (by kernel_rfl) ord_touches_18
theorem ord_touches_16 : seqMid .any (opsOf Tryz.f132 1) [23, 24, 25, 26] [(16, false), (17, false), (18, false), (19, false), (20, true), (22, true), (21, false)] #[true, true, true, true, true, true, true, true, true, true, true, true, true, true, true, true, false, false, false, false, false, false, false, false, false, false, false] = true := seqMid_f (by kernel_rfl) (by kernel_rfl) ord_touches_17
theorem ord_touches_15 : seqMid .any (opsOf Tryz.f132 1) [23, 24, 25, 26] [(14, false), (16, false), (17, false), (18, false), (19, false), (20, true), (22, true), (21, false)] #[true, true, true, true, true, true, true, true, true, true, true, true, true, true, false, true, false, false, false, false, false, false, false, false, false, false, false] = true := seqMid_f (by kernel_rfl) (by kernel_rfl) ord_touches_16
theorem ord_touches_14 : seqMid .any (opsOf Tryz.f132 1) [23, 24, 25, 26] [(15, true), (14, false), (16, false), (17, false), (18, false), (19, false), (20, true), (22, true), (21, false)] #[true, true, true, true, true, true, true, true, true, true, true, true, true, true, false, false, false, false, false, false, false, false, false, false, false, false, false] = true := seqMid_t (takeB_c [[19, 16, 15], [19, 16, 15], [19, 16, 15], [15]] (by kernel_rfl) (by kernel_rfl) (by kernel_rfl) (by kernel_rfl)) (by kernel_rfl) ord_touches_15
theorem ord_touches_13 : seqMid .any (opsOf Tryz.f132 1) [23, 24, 25, 26] [(13, true), (15, true), (14, false), (16, false), (17, false), (18, false), (19, false), (20, true), (22, true), (21, false)] #[true, true, true, true, true, true, true, true, true, true, true, true, true, false, false, false, false, false, false, false, false, false, false, false, false, false, false] = true := seqMid_t (takeB_c [[19, 16, 14, 13], [19, 16, 14, 13], [19, 16, 14, 13], [13]] (by kernel_rfl) (by kernel_rfl) (by kernel_rfl) (by kernel_rfl)) (by kernel_rfl) ord_touches_14
theorem ord_touches_12 : seqMid .any (opsOf Tryz.f132 1) [23, 24, 25, 26] [(12, false), (13, true), (15, true), (14, false), (16, false), (17, false), (18, false), (19, false), (20, true), (22, true), (21, false)] #[true, true, true, true, true, true, true, true, true, true, true, true, false, false, false, false, false, false, false, false, false, false, false, false, false, false, false] = true := seqMid_f (by kernel_rfl) (by kernel_rfl) ord_touches_13
theorem ord_touches_11 : seqMid .any (opsOf Tryz.f132 1) [23, 24, 25, 26] [(11, false), (12, false), (13, true), (15, true), (14, false), (16, false), (17, false), (18, false), (19, false), (20, true), (22, true), (21, false)] #[true, true, true, true, true, true, true, true, true, true, true, false, false, false, false, false, false, false, false, false, false, false, false, false, false, false, false] = true := seqMid_f (by kernel_rfl) (by kernel_rfl) ord_touches_12
theorem ord_touches_10 : seqMid .any (opsOf Tryz.f132 1) [23, 24, 25, 26] [(10, false), (11, false), (12, false), (13, true), (15, true), (14, false), (16, false), (17, false), (18, false), (19, false), (20, true), (22, true), (21, false)] #[true, true, true, true, true, true, true, true, true, true, false, false, false, false, false, false, false, false, false, false, false, false, false, false, false, false, false] = true := seqMid_f (by kernel_rfl) (by kernel_rfl) ord_touches_11
theorem ord_touches_9 : seqMid .any (opsOf Tryz.f132 1) [23, 24, 25, 26] [(9, false), (10, false), (11, false), (12, false), (13, true), (15, true), (14, false), (16, false), (17, false), (18, false), (19, false), (20, true), (22, true), (21, false)] #[true, true, true, true, true, true, true, true, true, false, false, false, false, false, false, false, false, false, false, false, false, false, false, false, false, false, false] = true := seqMid_f (by kernel_rfl) (by kernel_rfl) ord_touches_10
theorem ord_touches_8 : seqMid .any (opsOf Tryz.f132 1) [23, 24, 25, 26] [(7, false), (9, false), (10, false), (11, false), (12, false), (13, true), (15, true), (14, false), (16, false), (17, false), (18, false), (19, false), (20, true), (22, true), (21, false)] #[true, true, true, true, true, true, true, false, true, false, false, false, false, false, false, false, false, false, false, false, false, false, false, false, false, false, false] = true := seqMid_f (by kernel_rfl) (by kernel_rfl) ord_touches_9
theorem ord_touches_7 : seqMid .any (opsOf Tryz.f132 1) [23, 24, 25, 26] [(8, true), (7, false), (9, false), (10, false), (11, false), (12, false), (13, true), (15, true), (14, false), (16, false), (17, false), (18, false), (19, false), (20, true), (22, true), (21, false)] #[true, true, true, true, true, true, true, false, false, false, false, false, false, false, false, false, false, false, false, false, false, false, false, false, false, false, false] = true := seqMid_t (takeB_c [[19, 18, 12, 9, 8], [19, 18, 12, 9, 8], [19, 18, 12, 9, 8], [8]] (by kernel_rfl) (by kernel_rfl) (by kernel_rfl) (by kernel_rfl)) (by kernel_rfl) ord_touches_8
theorem ord_touches_6 : seqMid .any (opsOf Tryz.f132 1) [23, 24, 25, 26] [(6, true), (8, true), (7, false), (9, false), (10, false), (11, false), (12, false), (13, true), (15, true), (14, false), (16, false), (17, false), (18, false), (19, false), (20, true), (22, true), (21, false)] #[true, true, true, true, true, true, false, false, false, false, false, false, false, false, false, false, false, false, false, false, false, false, false, false, false, false, false] = true := seqMid_t (takeB_c [[19, 18, 12, 9, 7, 6], [19, 18, 12, 9, 7, 6], [19, 18, 12, 9, 7, 6], [6]] (by kernel_rfl) (by kernel_rfl) (by kernel_rfl) (by kernel_rfl)) (by kernel_rfl) ord_touches_7
theorem ord_touches_5 : seqMid .any (opsOf Tryz.f132 1) [23, 24, 25, 26] [(5, false), (6, true), (8, true), (7, false), (9, false), (10, false), (11, false), (12, false), (13, true), (15, true), (14, false), (16, false), (17, false), (18, false), (19, false), (20, true), (22, true), (21, false)] #[true, true, true, true, true, false, false, false, false, false, false, false, false, false, false, false, false, false, false, false, false, false, false, false, false, false, false] = true := seqMid_f (by kernel_rfl) (by kernel_rfl) ord_touches_6
theorem ord_touches_4 : seqMid .any (opsOf Tryz.f132 1) [23, 24, 25, 26] [(4, false), (5, false), (6, true), (8, true), (7, false), (9, false), (10, false), (11, false), (12, false), (13, true), (15, true), (14, false), (16, false), (17, false), (18, false), (19, false), (20, true), (22, true), (21, false)] #[true, true, true, true, false, false, false, false, false, false, false, false, false, false, false, false, false, false, false, false, false, false, false, false, false, false, false] = true := seqMid_f (by kernel_rfl) (by kernel_rfl) ord_touches_5
theorem ord_touches_3 : seqMid .any (opsOf Tryz.f132 1) [23, 24, 25, 26] [(3, false), (4, false), (5, false), (6, true), (8, true), (7, false), (9, false), (10, false), (11, false), (12, false), (13, true), (15, true), (14, false), (16, false), (17, false), (18, false), (19, false), (20, true), (22, true), (21, false)] #[true, true, true, false, false, false, false, false, false, false, false, false, false, false, false, false, false, false, false, false, false, false, false, false, false, false, false] = true := seqMid_f (by kernel_rfl) (by kernel_rfl) ord_touches_4
theorem ord_touches_2 : seqMid .any (opsOf Tryz.f132 1) [23, 24, 25, 26] [(1, false), (3, false), (4, false), (5, false), (6, true), (8, true), (7, false), (9, false), (10, false), (11, false), (12, false), (13, true), (15, true), (14, false), (16, false), (17, false), (18, false), (19, false), (20, true), (22, true), (21, false)] #[true, false, true, false, false, false, false, false, false, false, false, false, false, false, false, false, false, false, false, false, false, false, false, false, false, false, false] = true := seqMid_f (by kernel_rfl) (by kernel_rfl) ord_touches_3
theorem ord_touches_1 : seqPre .any (opsOf Tryz.f132 1) [(1, false), (3, false), (4, false), (5, false), (6, true), (8, true), (7, false), (9, false), (10, false), (11, false), (12, false), (13, true), (15, true), (14, false), (16, false), (17, false), (18, false), (19, false), (20, true), (22, true), (21, false)] [23, 24, 25, 26] [2] #[true, false, false, false, false, false, false, false, false, false, false, false, false, false, false, false, false, false, false, false, false, false, false, false, false, false, false] = true := seqPre_c (takeB_c [[19, 18, 12, 11, 5, 3, 2], [19, 18, 12, 11, 5, 3, 2], [19, 18, 12, 11, 5, 3, 2], [2]] (by kernel_rfl) (by kernel_rfl) (by kernel_rfl) (by kernel_rfl)) (by kernel_rfl) (seqPre_nil ord_touches_2)
theorem ord_touches_0 : seqPre .any (opsOf Tryz.f132 1) [(1, false), (3, false), (4, false), (5, false), (6, true), (8, true), (7, false), (9, false), (10, false), (11, false), (12, false), (13, true), (15, true), (14, false), (16, false), (17, false), (18, false), (19, false), (20, true), (22, true), (21, false)] [23, 24, 25, 26] [0, 2] #[false, false, false, false, false, false, false, false, false, false, false, false, false, false, false, false, false, false, false, false, false, false, false, false, false, false, false] = true := seqPre_c (takeB_c [[19, 18, 12, 11, 5, 4, 1, 0], [19, 18, 12, 11, 5, 4, 1, 0], [19, 18, 12, 11, 5, 4, 1, 0], [0]] (by kernel_rfl) (by kernel_rfl) (by kernel_rfl) (by kernel_rfl)) (by kernel_rfl) ord_touches_1
theorem ord_touches : ordB .any (opsOf Tryz.f132 1) [0, 2] [(1, false), (3, false), (4, false), (5, false), (6, true), (8, true), (7, false), (9, false), (10, false), (11, false), (12, false), (13, true), (15, true), (14, false), (16, false), (17, false), (18, false), (19, false), (20, true), (22, true), (21, false)] [23, 24, 25, 26] = true := ordB_c (by kernel_rfl) (by kernel_rfl) (show Array.replicate (opsOf Tryz.f132 1).size false = #[false, false, false, false, false, false, false, false, false, false, false, false, false, false, false, false, false, false, false, false, false, false, false, false, false, false, false] by kernel_rfl) ord_touches_0
end Go.Proofs.YtkmjcoofkgpanaaGreatDoor

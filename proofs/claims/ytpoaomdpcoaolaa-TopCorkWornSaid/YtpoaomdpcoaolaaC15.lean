/- What awake looks at, plain. Conditions: none. -/
import Derived.Test.YtpoaomdpcoaolaaC14
import Derived.Test.YtpoaomdpcoaolaaC13
import Derived.Test.YtpoaomdpcoaolaaC11
import Derived.Test.YtpoaomdpcoaolaaC12
import Derived.Test.YtpoaomdpcoaolaaC09
namespace Go.Proofs.Ytpoaomdpcoaolaa
open Go.RowKit Go.ChangeMaps
set_option maxHeartbeats 4000000
set_option maxRecDepth 100000

/-! ## what awake looks at -/
def smB : List Bar := [(0, 0, 1), (2, 0, -1), (2, 0, 1), (4, 0, -1), (1, 1, -1), (1, 1, 1), (3, 1, -1), (3, 1, 1)]
def bigB : List Bar := shN 0 0 2 4
def minB : List Bar := putL minusK bigB (aroundL (2, 2))
theorem p1 : sheetE 0 0 2 2 = 0 := by kernel_rfl
theorem p2 : sheetL 0 0 2 2 = smB := by kernel_rfl
theorem p3 : netE smB = 0 := by kernel_rfl
theorem p4 : (holeK smB).length = 8 := by kernel_rfl
theorem p5 : legsR smB = #[.int .i64 0, .int .i64 4, .int .i64 2, .int .i64 0, .int .i64 2] := by kernel_rfl
theorem p6 : meshL smB smB = [(2, 1)] := by kernel_rfl
theorem prt_one {l : List Bar} {b0 : Bar} (h0 : l[0]? = some b0) (hc : ∀ b ∈ l, b ∈ colP l [] (l.length + 1) 0 [b0]) : ∀ k, k < l.length → prtO l (k + 1) = [srtB (colP l [] (l.length + 1) 0 [b0])]
  | 0, _ => by
    rw [prtO, h0]
    simp [prtO]
  | k + 1, hk => by
    have ih := prt_one h0 hc k (by omega)
    rw [prtO, List.getElem?_eq_getElem hk, ih]
    have hm : l[k + 1] ∈ [srtB (colP l [] (l.length + 1) 0 [b0])].flatten := by
      simp only [List.flatten_cons, List.flatten_nil, List.append_nil]
      exact (srtB_mem _ _).2 (hc _ (List.getElem_mem hk))
    simp only [if_pos hm]
theorem p6a : (partsL smB).length = 1 := by
  unfold partsL
  rw [show smB.length = 7 + 1 from rfl, prt_one (b0 := (0, 0, 1)) rfl (by decide +kernel) 7 (by decide)]
  rfl
theorem p10 : cntA smB = #[.int .i64 8, .int .i64 8, .int .i64 1, .int .i64 1, .int .i64 0] := by
  unfold cntA
  rw [if_pos p3, p4, p6, p6a]
  rfl
theorem p11 : sheetE 0 0 2 4 = 0 := by kernel_rfl
theorem p12 : knotE 2 2 = 0 := by kernel_rfl
theorem p13 : putE minusK bigB (aroundL (2, 2)) = 0 := by kernel_rfl
theorem p14 : netE minB = 0 := by kernel_rfl
theorem p14a : (holeK minB).length = 12 := by kernel_rfl
theorem p14c : (meshL minB minB).length = 0 := by kernel_rfl
theorem p14d : minB.length = 12 := by kernel_rfl
theorem p14b : (partsL minB).length = 1 := by
  unfold partsL
  rw [p14d, show 12 = 11 + 1 from rfl, prt_one (b0 := (0, 0, 1)) (by kernel_rfl) (by decide +kernel) 11 (by rw [p14d]; decide)]
  rfl
theorem p15 : cntA minB = #[.int .i64 12, .int .i64 12, .int .i64 0, .int .i64 1, .int .i64 1] := by
  unfold cntA
  rw [if_pos p14, p14a, p14b, p14c, p14d]
  rfl
theorem p16 : netE [(1, 1, -1)] = 0 := by kernel_rfl
theorem p17 : turnN (qN 1) [(1, 1, -1)] = [(-2, 0, 1)] := by kernel_rfl
theorem p18 : netE [(2, 0, 1)] = 0 := by kernel_rfl
theorem p19 : mirN [(2, 0, 1)] = [(-2, 0, -1)] := by kernel_rfl
theorem p20 : canE [(5, 3, 1)] = 0 := by kernel_rfl
theorem p21 : canL [(5, 3, 1)] = [(0, 0, -1)] := by kernel_rfl
theorem p22 : netE [(0, 0, 1), (4, 0, 1)] = 0 := by kernel_rfl
theorem p23 : (partsL [(0, 0, 1), (4, 0, 1)]).length = 2 := by kernel_rfl
theorem p24 : drawE 1 3 = 0 := by kernel_rfl
theorem p25 : drawR 1 3 = [0, 2, 1] := by kernel_rfl
end Go.Proofs.Ytpoaomdpcoaolaa

/- The program answers the document's examples: awake, walked. Conditions: the variables are laid. -/
namespace Go.Proofs.Ytpoaomdpcoaolaa
open Go.RowKit Go.ChangeMaps
set_option maxHeartbeats 4000000
set_option maxRecDepth 100000

theorem own_new (W : World) {base : Nat} (hb : base ≤ W.heap.size) (l : List Bar) (hl : l.length ≤ 1000) (cs : Array Value) (hc : cs = (l.flatMap bc).toArray) (n : Nat) (hn : n = l.length) : OwB base (W.alloc (.cells cs 50)) (.slice (some ⟨W.heap.size, 0, none⟩) n n) l := by
  subst hc hn
  have hs : ∀ l : List Bar, (l.flatMap bc).length = l.length * 3 := fun l => by
    induction l with
    | nil => rfl
    | cons a r ih => simp [bc, ih]; omega
  exact ⟨hs l, .inr ⟨W.heap.size, l.length, _, rfl, hb, heap_alloc_new W _, Nat.le_refl _, by simp [maxLen]; omega, by simpa using hs l, by rw [← hs l]; exact List.take_length⟩⟩
theorem own_newI (W : World) {base : Nat} (hb : base ≤ W.heap.size) (l : List Int) (hl : l.length ≤ 1000) (cs : Array Value) (hc : cs = (l.flatMap ic).toArray) (n : Nat) (hn : n = l.length) : OwI base (W.alloc (.cells cs 3)) (.slice (some ⟨W.heap.size, 0, none⟩) n n) l := by
  subst hc hn
  have hs : ∀ l : List Int, (l.flatMap ic).length = l.length * 1 := fun l => by
    induction l with
    | nil => rfl
    | cons a r ih => simp [ic, ih]
  exact ⟨hs l, .inr ⟨W.heap.size, l.length, _, rfl, hb, heap_alloc_new W _, Nat.le_refl _, by simp [maxLen]; omega, by simpa using hs l, by rw [← hs l]; exact List.take_length⟩⟩
theorem aw_sheet (w : World) : Calls Try.prog 14 #[.agg #[.int .i64 0, .int .i64 0], .int .i64 2, .int .i64 2] w (RBE w smB 0) := by
  have h := apiSheet_any 0 0 2 2 w
  rwa [p1, p2] at h
theorem aw_big (w : World) : Calls Try.prog 14 #[.agg #[.int .i64 0, .int .i64 0], .int .i64 2, .int .i64 4] w (RBE w bigB 0) := by
  have h := apiSheet_any 0 0 2 4 w
  rwa [p11, show sheetL 0 0 2 4 = bigB by unfold sheetL; rw [if_pos p11]; rfl] at h
theorem aw_knots {v : Value} (w : World) (h : SlB w v smB) : Calls Try.prog 11 #[v] w (RKE w (holeK smB) 0) := by
  have := apiKnots_any smB w h
  rwa [p3, show onlyOk 0 (holeK smB) = holeK smB from rfl] at this
theorem aw_count {v : Value} (w : World) (h : SlB w v smB) : Calls Try.prog 21 #[v] w (RLE w #[.int .i64 8, .int .i64 8, .int .i64 1, .int .i64 1, .int .i64 0] 0) := by
  have := apiCount_any smB w h
  rwa [p3, p10] at this
theorem aw_minus {v u : Value} (w : World) (h : SlB w v bigB) (h' : SlB w u (aroundL (2, 2))) : Calls Try.prog 17 #[v, u] w (RBE w minB 0) := by
  have := apiMinus_any bigB (aroundL (2, 2)) w h h'
  rwa [p13] at this
theorem aw_count2 {v : Value} (w : World) (h : SlB w v minB) : Calls Try.prog 21 #[v] w (RLE w #[.int .i64 12, .int .i64 12, .int .i64 0, .int .i64 1, .int .i64 1] 0) := by
  have := apiCount_any minB w h
  rwa [p14, p15] at this
@[go_sem] theorem eq_mesh (w : World) : (Op.equalIn 10000 96 (.agg #[.int .i64 2, .int .i64 1]) (.agg #[.int .i64 2, .int .i64 1])).run Try.prog w = .ok true w := by kernel_rfl
@[go_sem] theorem eq_count1 (w : World) : (Op.equalIn 10000 33 (.agg #[.int .i64 8, .int .i64 8, .int .i64 1, .int .i64 1, .int .i64 0]) (.agg #[.int .i64 8, .int .i64 8, .int .i64 1, .int .i64 1, .int .i64 0])).run Try.prog w = .ok true w := by kernel_rfl
@[go_sem] theorem eq_count2 (w : World) : (Op.equalIn 10000 33 (.agg #[.int .i64 12, .int .i64 12, .int .i64 0, .int .i64 1, .int .i64 1]) (.agg #[.int .i64 12, .int .i64 12, .int .i64 0, .int .i64 1, .int .i64 1])).run Try.prog w = .ok true w := by kernel_rfl
end Go.Proofs.Ytpoaomdpcoaolaa

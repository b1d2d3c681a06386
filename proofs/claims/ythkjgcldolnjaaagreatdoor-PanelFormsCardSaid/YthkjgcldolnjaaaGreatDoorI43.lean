/- Panels, plain: plain forms. Conditions: none. -/
import Derived.Test.YthkjgcldolnjaaaGreatDoorI02
import Derived.Test.YthkjgcldolnjaaaGreatDoorI22
namespace Go.Proofs.YthkjgcldolnjaaaGreatDoor
open Go.RowKit Go.ChangeMaps
set_option maxHeartbeats 4000000
set_option maxRecDepth 100000

/-! # Panels, plain: plain forms -/
/-- which way a letter says: 1 outwards, -1 inwards, 0 none -/
def ownW (x : Stp) : Int := if x.1 = 78 then 0 else if x.2 then 1 else -1
/-- edges that are done, the word under way, its way -/
abbrev PlS := List Edg × List UInt8 × Int
def flS (s : PlS) : PlS := (if s.2.1 = [] then s.1 else s.1 ++ [(s.2.1, 1, decide (0 < s.2.2))], [], 0)
def cutS (s : PlS) (x : Stp) : Bool := decide (s.2.1.length = 64) || decide (ownW x * s.2.2 < 0)
def putS (s : PlS) (x : Stp) : PlS := (s.1, s.2.1 ++ [x.1], if ownW x ≠ 0 then ownW x else s.2.2)
def plS (s : PlS) (x : Stp) : PlS := putS (if cutS s x then flS s else s) x
def plF (l : List Stp) : PlS := l.foldl plS ([], [], 0)
def plnL (l : List Stp) : List Edg := (flS (plF l)).1
theorem plF_snoc (l : List Stp) (x : Stp) : plF (l ++ [x]) = plS (plF l) x := by unfold plF; rw [List.foldl_append]; rfl
theorem ownW_range (x : Stp) : ownW x = 0 ∨ ownW x = 1 ∨ ownW x = -1 := by
  unfold ownW
  split
  · exact .inl rfl
  · split
    · exact .inr (.inl rfl)
    · exact .inr (.inr rfl)
/-- what holds of every state -/
structure PlOk (s : PlS) : Prop where
  way : s.2.2 = 0 ∨ s.2.2 = 1 ∨ s.2.2 = -1
  len : s.2.1.length ≤ 64
theorem plS_ok {s : PlS} (h : PlOk s) (x : Stp) : PlOk (plS s x) ∧ (plS s x).2.1 ≠ [] := by
  have hx := ownW_range x
  unfold plS putS
  refine ⟨⟨?_, ?_⟩, by simp⟩
  · simp only
    split
    · exact hx
    · split
      · exact .inl rfl
      · exact h.way
  · simp only
    split
    · simp [flS]
    · rename_i hc
      have : s.2.1.length ≠ 64 := fun e => hc (by unfold cutS; simp [e])
      have := h.len
      simp
      omega
theorem plGo_ok : ∀ (l : List Stp) (s : PlS), PlOk s → PlOk (l.foldl plS s)
  | [], _, h => h
  | x :: r, s, h => plGo_ok r (plS s x) (plS_ok h x).1
theorem plF_ok (l : List Stp) : PlOk (plF l) := plGo_ok l _ ⟨.inl rfl, by simp⟩
/-- the reference's list of edges in a state -/
def refO (s : PlS) : List Edg := if s.2.1 = [] then s.1 else s.1 ++ [(s.2.1, 1, decide (s.2.2 = 1))]
theorem refO_end (l : List Stp) : refO (plF l) = plnL l := by
  have := (plF_ok l).way
  unfold refO plnL flS
  split
  · rfl
  · simp only
    have e : decide ((plF l).2.2 = 1) = decide (0 < (plF l).2.2) := by
      rw [Bool.eq_iff_iff]
      simp
      omega
    rw [e]
/-- steps that lead the same way -/
def sameS (a b : Stp) : Prop := a.1 = b.1 ∧ (a.1 = 78 ∨ a.2 = b.2)
theorem step_same {a b : Stp} (h : sameS a b) (right : Bool) (k : Knot) : stepK right k a = stepK right k b := by
  obtain ⟨c, o⟩ := a
  obtain ⟨c', o'⟩ := b
  obtain ⟨h1, h2⟩ := h
  simp only at h1 h2
  subst h1
  unfold stepK aft
  simp only
  rcases h2 with rfl | rfl
  · simp
  · rfl
end Go.Proofs.YthkjgcldolnjaaaGreatDoor

/- Plain forms, step by step; they have the same places, plain. Conditions: none. -/
namespace Go.Proofs.YthkjgcldolnjaaaGreatDoor
open Go.RowKit Go.ChangeMaps
set_option maxHeartbeats 4000000
set_option maxRecDepth 100000

/-! # Plain forms, step by step; the same places -/
theorem flS_ref {s : PlS} (h : PlOk s) : (flS s).1 = refO s := by
  have := h.way
  unfold refO flS
  split
  · rfl
  · simp only
    have e : decide (0 < s.2.2) = decide (s.2.2 = 1) := by
      rw [Bool.eq_iff_iff]
      simp
      omega
    rw [e]
theorem plR_cut {s : PlS} (h : PlOk s) {x : Stp} (hc : cutS s x = true) : plS s x = (refO s, [x.1], ownW x) := by
  unfold plS putS
  rw [if_pos hc, flS_ref h]
  have e1 : (flS s).2.1 = [] := rfl
  have e2 : (flS s).2.2 = 0 := rfl
  rw [e1, e2]
  simp only [List.nil_append]
  by_cases h0 : ownW x = 0
  · rw [if_neg (by simp [h0]), h0]
  · rw [if_pos h0]
theorem plR_on {s : PlS} (h : PlOk s) {x : Stp} (hc : cutS s x = false) : plS s x = (s.1, s.2.1 ++ [x.1], if s.2.2 = 0 then ownW x else s.2.2) := by
  have hw := h.way
  have ho := ownW_range x
  unfold cutS at hc
  rw [Bool.or_eq_false_iff] at hc
  have hm := of_decide_eq_false hc.2
  unfold plS putS
  rw [if_neg (by unfold cutS; rw [hc.1, hc.2]; simp)]
  have : (if ownW x ≠ 0 then ownW x else s.2.2) = if s.2.2 = 0 then ownW x else s.2.2 := by
    rcases hw with h1 | h1 | h1 <;> rcases ho with h2 | h2 | h2 <;> rw [h1, h2] at hm ⊢ <;> simp at hm ⊢
  rw [this]
theorem refO_put (E : List Edg) {w : List UInt8} (hw : w ≠ []) (y : Int) : refO (E, w, y) = E ++ [(w, 1, decide (y = 1))] := by
  unfold refO
  rw [if_neg hw]
theorem plF_word {l : List Stp} (h : l ≠ []) : (plF l).2.1 ≠ [] := by
  obtain ⟨r, x, rfl⟩ : ∃ r x, l = r ++ [x] := ⟨l.dropLast, l.getLast h, (List.dropLast_concat_getLast h).symm⟩
  rw [plF_snoc]
  exact (plS_ok (plF_ok r) x).2
/-! ## the letters of a plain form lead the same way -/
def SameL (a b : List Stp) : Prop := a.length = b.length ∧ ∀ i (h1 : i < a.length) (h2 : i < b.length), sameS a[i] b[i]
theorem SameL.nil_ : SameL [] [] := ⟨rfl, fun i h => by simp at h⟩
theorem SameL.snoc {a b : List Stp} (h : SameL a b) {x y : Stp} (hx : sameS x y) : SameL (a ++ [x]) (b ++ [y]) := by
  refine ⟨by rw [List.length_append, List.length_append, h.1]; rfl, fun i h1 h2 => ?_⟩
  have hl := h.1
  by_cases hi : i < a.length
  · rw [List.getElem_append_left hi, List.getElem_append_left (by omega)]
    exact h.2 i hi (by omega)
  · have e : i = a.length := by simp at h1; omega
    subst e
    rw [List.getElem_append_right (Nat.le_refl _), List.getElem_append_right (by omega)]
    simp only [List.getElem_singleton]
    exact hx
theorem SameL.pos {right : Bool} : ∀ {a b : List Stp} {k : Knot}, SameL a b → posK right k a = posK right k b
  | [], [], _, _ => rfl
  | [], _ :: _, _, h => by simp [SameL] at h
  | _ :: _, [], _, h => by simp [SameL] at h
  | x :: a, y :: b, k, h => by
    have h0 := h.2 0 (by simp) (by simp)
    simp only [List.getElem_cons_zero] at h0
    show posK right (stepK right k x) a = posK right (stepK right k y) b
    rw [step_same h0]
    refine SameL.pos ⟨by simpa using h.1, fun i h1 h2 => ?_⟩
    have := h.2 (i + 1) (by simpa using h1) (by simpa using h2)
    simpa using this
theorem SameL.out {right : Bool} : ∀ {a b : List Stp} {k : Knot}, SameL a b → outK right k a = outK right k b
  | [], [], _, _ => rfl
  | [], _ :: _, _, h => by simp [SameL] at h
  | _ :: _, [], _, h => by simp [SameL] at h
  | x :: a, y :: b, k, h => by
    have h0 := h.2 0 (by simp) (by simp)
    simp only [List.getElem_cons_zero] at h0
    rw [outK, outK, step_same h0]
    congr 1
    refine SameL.out ⟨by simpa using h.1, fun i h1 h2 => ?_⟩
    have := h.2 (i + 1) (by simpa using h1) (by simpa using h2)
    simpa using this
theorem SameL.trans {a b c : List Stp} (h : SameL a b) (h2 : SameL b c) : SameL a c := by
  refine ⟨h.1.trans h2.1, fun i q1 q2 => ?_⟩
  have hl := h.1
  obtain ⟨a1, a2⟩ := h.2 i q1 (by omega)
  obtain ⟨b1, b2⟩ := h2.2 i (by omega) q2
  refine ⟨a1.trans b1, ?_⟩
  rcases a2 with a2 | a2
  · exact .inl a2
  · rcases b2 with b2 | b2
    · exact .inl (a1.trans b2)
    · exact .inr (a2.trans b2)
end Go.Proofs.YthkjgcldolnjaaaGreatDoor

/- Plain forms, walked. Conditions: letters. -/
namespace Go.Proofs.YthkjgcldolnjaaaGreatDoor
open Go.RowKit Go.ChangeMaps
set_option maxHeartbeats 4000000
set_option maxRecDepth 100000

attribute [local go_sem] Oper.semAt_some
section
variable {ops : Array Oper} {rest : List Oper} {o : Oper} {a : Act} {Q : Exit → Act → World → Prop} {base : Nat} {W : World} {v : Value}
theorem wpList_appE1 {x : Edg} {l : List Edg} {cs : Array Value} (hown : Own ec 3 base 100 W v l) {g : Nat} (hgd : o.guard = none) (s y : Operand)
    (ho : o.op = .call { callee := .builtin .append, args := #[s, y], argTypes := #[27, 27] })
    (hs : a.eval s = v) (hx : a.eval y = .slice (some ⟨g, 0, none⟩) 1 1) (hg : W.heap.size = g) (hcs : cs = (ec x).toArray) (hlen : l.length ≤ 1000000) (hbase : base ≤ W.heap.size)
    (h : ∀ v' w', Own ec 3 base 100 w' v' (l ++ [x]) → (W.alloc (.cells cs 100)).grownBy w' v.ownBlock → wpList Tryz.prog ops Q rest (a.put o.dst v') w') :
    wpList Tryz.prog ops Q (o :: rest) a (W.alloc (.cells cs 100)) := by
  subst hg
  exact wpList_app hgd edge_elem ec_len ec_one s y ho base v _ l [x] hs hx (hown.alloc _) (Sl.oneG W _ x _ hcs) (by simp [maxLen]; omega) (by simp; omega) (by simp; omega) h
end
/-- what flush leaves -/
def FlP (B0 Bw Bo Bp base : Nat) (w : World) (s : PlS) (e : Ending) (w' : World) : Prop :=
  e = .returned (.tuple #[]) ∧ Blk w' Bw 9 #[sV s.2.1] ∧ (∃ u, Blk w' Bo 27 #[u] ∧ Own ec 3 base 100 w' u s.1) ∧ Blk w' Bp 3 #[.int .i64 s.2.2] ∧ Below B0 w w' ∧ ∀ g cs, Blk w g 142 cs → Blk w' g 142 cs
theorem Blk.ne_ {w : World} {g g' : Nat} {t t' : TypeId} {cs cs' : Array Value} (h : Blk w g t cs) (h' : Blk w g' t' cs') (ht : t ≠ t') : g ≠ g' := by
  rintro rfl
  unfold Blk at h h'
  rw [h] at h'
  exact ht (by injection (Option.some.inj h'))
theorem flush_any (B0 Bw Bo Bp base : Nat) (s : PlS) (u : Value) (w : World) (hW : Blk w Bw 9 #[sV s.2.1]) (hO : Blk w Bo 27 #[u]) (hu : Own ec 3 base 100 w u s.1) (hP : Blk w Bp 3 #[.int .i64 s.2.2])
    (hl : s.1.length ≤ 100000) (h1 : B0 ≤ Bw) (h2 : B0 ≤ Bo) (h3 : B0 ≤ Bp) (h4 : B0 ≤ base) (h5 : base ≤ w.heap.size) :
    Calls Tryz.prog 147 #[.pointer (some ⟨Bw, 0, none⟩), .pointer (some ⟨Bo, 0, none⟩), .pointer (some ⟨Bp, 0, none⟩)] w (FlP B0 Bw Bo Bp base w (flS s)) := by
  obtain ⟨o, wd, way⟩ := s
  simp only at hW hP hu hl
  obtain ⟨A, c, rfl⟩ := hu.shape
  have n1 : Bw ≠ Bo := by rintro rfl; unfold Blk at hW hO; rw [hW] at hO; simp at hO
  have n2 : Bw ≠ Bp := by rintro rfl; unfold Blk at hW hP; rw [hW] at hP; simp at hP
  have n3 : Bo ≠ Bp := by rintro rfl; unfold Blk at hO hP; rw [hO] at hP; simp at hP
  have fW := hW.facts
  have fO := hO.facts
  have fP := hP.facts
  by_cases hz : wd = []
  · subst hz
    have HS : Hid (flS (o, [], way) = (o, [], 0)) := rfl
    rw [HS.out]
    clear HS
    have hWF := (hW.set_ 0 (sV []))
    have e0 : sV [] = .string { data := #[] } := rfl
    rw [e0] at fW
    go_enter Tryz.func147, Tryz.ntmps147
    go_wp2
    go_end0
    have k1 : Below B0 w (w.setCell ⟨Bw, 0, none⟩ (sV [])) := (Below.refl B0 w).setCell (p := ⟨Bw, 0, none⟩) h1 _
    exact ⟨rfl, hWF.far (p := ⟨Bp, 0, none⟩) n2 _, ⟨_, (hO.far (p := ⟨Bw, 0, none⟩) (Ne.symm n1) _).far (p := ⟨Bp, 0, none⟩) n3 _, (hu.set (p := ⟨Bw, 0, none⟩) (Ne.symm (hu.ne_blk hW (by decide))) _).set (p := ⟨Bp, 0, none⟩) (Ne.symm (hu.ne_blk hP (by decide))) _⟩,
      (hP.far (p := ⟨Bw, 0, none⟩) (Ne.symm n2) _).set_ 0 (.int .i64 0), k1.setCell (p := ⟨Bp, 0, none⟩) h3 _,
      fun g cs hg => (hg.far (p := ⟨Bw, 0, none⟩) (hg.ne_ hW (by decide)) _).far (p := ⟨Bp, 0, none⟩) (hg.ne_ hP (by decide)) _⟩
  · have HS : Hid (flS (o, wd, way) = (o ++ [(wd, 1, decide (0 < way))], [], 0)) := by unfold Hid flS; simp only; rw [if_neg hz]
    rw [HS.out]
    clear HS
    obtain ⟨B, hB⟩ : ∃ B : ByteArray, ({ data := wd.toArray } : ByteArray) = B := ⟨_, rfl⟩
    have hBl : B.toList = wd := by rw [← hB]; simp [ByteArray.toList_eq]
    have g1 : (B.toList == []) = false := by rw [hBl]; cases wd <;> simp_all
    have g2 : B.toList.isEmpty = false := by rw [hBl]; cases wd <;> simp_all
    have g3 : (B.toList = []) = False := by rw [hBl]; simpa using hz
    unfold sV at hW fW
    have HB := Lib.hid hB
    rw [hB] at hW fW
    clear hB hBl hz
    go_enter Tryz.func147, Tryz.ntmps147
    go_wp2_with (at_builtin; refine wpList_appE1 (x := (wd, 1, decide (0 < way))) hu rfl _ _ rfl rfl rfl rfl (by rw [← HB.out]; rfl) (by omega) (by omega) ?_; intro v3 w3 hu3 hgr3; obtain ⟨A3, c3, rfl⟩ := hu3.shape; have hO3 := (hO.alloc (.cells #[.string B, .int .i64 1, .bool (decide (0 < way))] 100)).grown hgr3 (hu.ne_blk hO (by decide)); have hW3 := (hW.alloc (.cells #[.string B, .int .i64 1, .bool (decide (0 < way))] 100)).grown hgr3 (hu.ne_blk hW (by decide)); have hP3 := (hP.alloc (.cells #[.string B, .int .i64 1, .bool (decide (0 < way))] 100)).grown hgr3 (hu.ne_blk hP (by decide)); have f3 := hO3.facts; have f4 := hW3.facts; have f5 := hP3.facts)
    go_end0
    simp only [List.length_append, List.length_cons, List.length_nil, Nat.zero_add] at hu3
    have k0 : Below B0 w w3 := ((Below.refl B0 w).alloc (Nat.le_trans h4 h5) _).grown hgr3 (by simp; omega) (fun k e => Nat.le_trans h4 (hu.lt k e).1)
    exact ⟨rfl, ((hW3.far (p := ⟨Bo, 0, none⟩) n1 _).set_ 0 (sV [])).far (p := ⟨Bp, 0, none⟩) n2 _,
      ⟨_, ((hO3.set_ 0 _).far (p := ⟨Bw, 0, none⟩) (Ne.symm n1) _).far (p := ⟨Bp, 0, none⟩) n3 _,
        ((hu3.set (p := ⟨Bo, 0, none⟩) (Ne.symm (hu3.ne_blk hO3 (by decide))) _).set (p := ⟨Bw, 0, none⟩) (Ne.symm (hu3.ne_blk hW3 (by decide))) _).set (p := ⟨Bp, 0, none⟩) (Ne.symm (hu3.ne_blk hP3 (by decide))) _⟩,
      ((hP3.far (p := ⟨Bo, 0, none⟩) (Ne.symm n3) _).far (p := ⟨Bw, 0, none⟩) (Ne.symm n2) _).set_ 0 (.int .i64 0),
      ((k0.setCell (p := ⟨Bo, 0, none⟩) h2 _).setCell (p := ⟨Bw, 0, none⟩) h1 _).setCell (p := ⟨Bp, 0, none⟩) h3 _,
      fun g cs hg => ((((hg.alloc _).grown hgr3 (hu.ne_blk hg (by decide))).far (p := ⟨Bo, 0, none⟩) (hg.ne_ hO (by decide)) _).far (p := ⟨Bw, 0, none⟩) (hg.ne_ hW (by decide)) _).far (p := ⟨Bp, 0, none⟩) (hg.ne_ hP (by decide)) _⟩
/-- a letter of a valid panel -/
def ltr (c : UInt8) : Prop := c = 78 ∨ c = 66 ∨ c = 84
theorem conv_ltr (c : UInt8) (h : ltr c) (w : World) : (convert 5 9 (.int .u8 c.toNat)).run Tryz.prog w = .ok (.string ⟨#[c]⟩) w := by
  rcases h with rfl | rfl | rfl <;> kernel_rfl
theorem enc_ltr (c : UInt8) (h : ltr c) : Utf8.encode (c.toNat : Int) = ⟨#[c]⟩ := by
  rcases h with rfl | rfl | rfl <;> kernel_rfl
theorem app_str (wd : List UInt8) (c : UInt8) : (({ data := wd.toArray } : ByteArray) ++ { data := #[c] }) = { data := (wd ++ [c]).toArray } := by
  apply ByteArray.ext
  simp [ByteArray.data_append]
theorem plS_len (s : PlS) (x : Stp) : (plS s x).1.length ≤ s.1.length + 1 := by
  unfold plS putS flS
  simp only
  split
  · split
    · simp
    · simp
  · simp
theorem plF_len : ∀ l : List Stp, (plF l).1.length ≤ l.length := by
  have : ∀ (l : List Stp) (s : PlS), (l.foldl plS s).1.length ≤ s.1.length + l.length := by
    intro l
    induction l with
    | nil => intro s; simp
    | cons x r ih =>
      intro s
      have h1 := ih (plS s x)
      have h2 := plS_len s x
      simp only [List.foldl_cons, List.length_cons]
      omega
  intro l
  have := this l ([], [], 0)
  simpa [plF] using this
theorem plS_cut {s : PlS} {x : Stp} {y : Int} (hy : (if ownW x ≠ 0 then ownW x else 0) = y) (h : cutS s x = true) : plS s x = ((flS s).1, [x.1], y) := by
  unfold plS
  rw [if_pos h]
  unfold putS
  rw [← hy]
  rfl
theorem plS_keep {s : PlS} {x : Stp} {y : Int} (hy : (if ownW x ≠ 0 then ownW x else s.2.2) = y) (h : cutS s x = false) : plS s x = (s.1, s.2.1 ++ [x.1], y) := by
  unfold plS
  rw [if_neg (by simp [h])]
  unfold putS
  rw [← hy]
theorem plain_any (l : List Stp) (A : Option Addr) (cc : Nat) (w : World) (hr : Rd sc 2 w A l) (hl : l.length ≤ 1000) (hc : ∀ x ∈ l, ltr x.1) :
    Calls Tryz.prog 96 #[.slice A l.length cc] w (RG ec 3 100 w (plnL l)) := by
  have HLL := Lib.hid hc
  clear hc
  have hO := Blk.new w 27 #[.slice none 0 0]
  have hW := Blk.new1 w (.cells #[.slice none 0 0] 27) 9 #[sV []]
  have hP := Blk.new2 w (.cells #[.slice none 0 0] 27) (.cells #[sV []] 9) 3 #[.int .i64 0]
  replace hO := (hO.alloc (.cells #[sV []] 9)).alloc (.cells #[.int .i64 0] 3)
  replace hW := hW.alloc (.cells #[.int .i64 0] 3)
  have e0 : sV [] = .string { data := #[] } := rfl
  rw [e0] at hO hW hP
  go_enter Tryz.func96, Tryz.ntmps96
  go_upto_region 4 with fail
  obtain ⟨w1, hw1⟩ : ∃ X, ((w.alloc (.cells #[.slice none 0 0] 27)).alloc (.cells #[.string { data := #[] }] 9)).alloc (.cells #[.int .i64 0] 3) = X := ⟨_, rfl⟩
  have hb1 : Below w.heap.size w w1 := by rw [← hw1]; exact bl_alloc (bl_alloc (bl_alloc bl_refl _) _) _
  rw [hw1] at hO hW hP ⊢
  clear hw1
  go_wp2
  go_loopw [13] (fun s13 wr => ∃ k : Nat, k ≤ l.length ∧ s13 = .int .i64 k ∧ Blk wr (w.heap.size + 1) 9 #[sV (plF (l.take k)).2.1] ∧ (∃ u, Blk wr w.heap.size 27 #[u] ∧ Own ec 3 w.heap.size 100 wr u (plF (l.take k)).1) ∧ Blk wr (w.heap.size + 1 + 1) 3 #[.int .i64 (plF (l.take k)).2.2] ∧ Below w.heap.size w wr) (fun s _ => l.length - (intOf s).toNat)
  case atStart => exact ⟨0, Nat.zero_le _, rfl, hW, ⟨_, hO, Own.nil_⟩, hP, hb1⟩
  case round =>
    clear hO hW hP
    obtain ⟨k, hk, rfl, hW, ⟨u, hO, hu⟩, hP, hbk⟩ := hrel
    obtain ⟨wo, rfl⟩ : ∃ x, x = wr := ⟨_, rfl⟩
    have hok := plF_ok (l.take k)
    have hel := plF_len (l.take k)
    by_cases hlt : k < l.length
    · have HT : Hid (plF (l.take (k + 1)) = plS (plF (l.take k)) l[k]) := by unfold Hid; rw [List.take_succ_eq_append_getElem hlt, plF_snoc]
      have hlc := HLL.out _ (List.getElem_mem hlt)
      obtain ⟨b, off, rfl, hb, e0, e1⟩ := (hr.below hbk).stp hlt
      obtain ⟨⟨c, o⟩, hx⟩ : ∃ z, l[k] = z := ⟨_, rfl⟩
      rw [hx] at e0 e1 hlc HT
      simp only at e0 e1 hlc
      clear hx
      have hS : (plF (l.take k)).1.length ≤ 1000 := by have := List.length_take_le k l; omega
      obtain ⟨⟨es, wd, way⟩, hs⟩ : ∃ z, plF (l.take k) = z := ⟨_, rfl⟩
      rw [hs] at hW hu hP hok HT hS
      obtain ⟨hway, hlen⟩ := hok
      simp only at hW hu hP hway hlen hS
      clear hs hel
      have hgz : w.heap.size + 1 + 1 < wo.heap.size := hP.lt
      have hX := Blk.new wo 142 #[.int .u8 c.toNat, .bool o]
      replace hW := hW.alloc (.cells #[.int .u8 c.toNat, .bool o] 142)
      replace hO := hO.alloc (.cells #[.int .u8 c.toNat, .bool o] 142)
      replace hP := hP.alloc (.cells #[.int .u8 c.toNat, .bool o] 142)
      replace hu := hu.alloc (.cells #[.int .u8 c.toNat, .bool o] 142)
      have hbx := bl_alloc hbk (.cells #[.int .u8 c.toNat, .bool o] 142)
      have fX := hX.facts
      go_upto_region 7 with fail
      obtain ⟨wx, hwx⟩ : ∃ X, wo.alloc (.cells #[.int .u8 c.toNat, .bool o] 142) = X := ⟨_, rfl⟩
      have hcv := conv_ltr c hlc
      obtain ⟨gx, hgx⟩ : ∃ X, wo.heap.size = X := ⟨_, rfl⟩
      rw [hwx] at hW hO hP hu hbx
      rw [hgx] at hgz
      rw [hwx, hgx] at hX
      rw [hwx, hgx]
      clear hwx hgx fX e0 e1 hb hbk
      have hcv := enc_ltr c hlc
      have hsz : ({ data := wd.toArray } : ByteArray).size = wd.length := rfl
      have hfl := flush_any w.heap.size (w.heap.size + 1) w.heap.size (w.heap.size + 1 + 1) w.heap.size (es, wd, way) u wx hW hO hu hP (by simp only; omega) (by omega) (Nat.le_refl _) (by omega) (Nat.le_refl _) hbx.size
      have HW0 := Lib.hid hW
      unfold sV at hW
      have HAP := Lib.hid (app_str wd c)
      have HAE : Hid (({ data := #[] } : ByteArray) ++ { data := #[c] } = { data := [c].toArray }) := app_str [] c
      have fX := hX.facts
      have fW := hW.facts
      have fO := hO.facts
      have fP := hP.facts
      have nWX : w.heap.size + 1 ≠ w.heap.size + 1 + 1 := by omega
      clear hlc hgz
      by_cases hO1 : c = 78
      · have t1 : ((c.toNat : Int) != 78) = false := by rw [hO1]; rfl
        have HO : Hid (ownW (c, o) = 0) := by unfold Hid ownW; rw [if_pos hO1]
        clear hO1
        rcases hway with rfl | rfl | rfl
        · by_cases h64 : wd.length = 64
          · have q1 : ((wd.length : Int) == 64) = true := by rw [h64]; rfl
            have HS : Hid (plS (es, wd, (0 : Int)) (c, o) = ((flS (es, wd, 0)).1, [c], (0 : Int))) := by unfold Hid; exact plS_cut (by rw [HO.out]; rfl) (by unfold cutS; rw [HO.out, decide_eq_true h64]; rfl)
            clear h64
            go_wp2_with fail
            refine hfl.mono ?_
            rintro e w9 ⟨rfl, hW9, ⟨u9, hO9, hu9⟩, hP9, hb9, hk9⟩
            have hX9 := hk9 _ _ hX
            unfold sV flS at hW9
            have fX9 := hX9.facts
            have fW9 := hW9.facts
            have fP9 := hP9.facts
            go_wp2
            go_roundw
            case rel => exact ⟨k + 1, by omega, by go_num, by rw [HT.out, HS.out]; unfold sV; rw [← HAE.out]; exact hW9.set_ 0 _, ⟨u9, by exact hO9.far (p := ⟨w.heap.size + 1, 0, none⟩) (by simp) _, by rw [HT.out, HS.out]; exact hu9.set (p := ⟨w.heap.size + 1, 0, none⟩) (Ne.symm (hu9.ne_blk hW9 (by decide))) _⟩, by rw [HT.out, HS.out]; exact hP9.far (p := ⟨w.heap.size + 1, 0, none⟩) (by simp) _, (hbx.trans hb9).setCell (p := ⟨w.heap.size + 1, 0, none⟩) (by simp) _⟩
            case measure => simp [intOf]; omega
          · have q1 : ((wd.length : Int) == 64) = false := beq_false_of_ne (by omega)
            have HS : Hid (plS (es, wd, (0 : Int)) (c, o) = (es, wd ++ [c], (0 : Int))) := by unfold Hid; exact plS_keep (by rw [HO.out]; rfl) (by unfold cutS; rw [HO.out, decide_eq_false h64]; rfl)
            clear h64
            go_wp2
            go_roundw
            case rel => exact ⟨k + 1, by omega, by go_num, by rw [HT.out, HS.out]; unfold sV; rw [← HAP.out]; exact hW.set_ 0 _, ⟨u, by exact hO.far (p := ⟨w.heap.size + 1, 0, none⟩) (by simp) _, by rw [HT.out, HS.out]; exact hu.set (p := ⟨w.heap.size + 1, 0, none⟩) (Ne.symm (hu.ne_blk hW (by decide))) _⟩, by rw [HT.out, HS.out]; exact hP.far (p := ⟨w.heap.size + 1, 0, none⟩) (by simp) _, hbx.setCell (p := ⟨w.heap.size + 1, 0, none⟩) (by simp) _⟩
            case measure => simp [intOf]; omega
        · by_cases h64 : wd.length = 64
          · have q1 : ((wd.length : Int) == 64) = true := by rw [h64]; rfl
            have HS : Hid (plS (es, wd, (1 : Int)) (c, o) = ((flS (es, wd, 1)).1, [c], (0 : Int))) := by unfold Hid; exact plS_cut (by rw [HO.out]; rfl) (by unfold cutS; rw [HO.out, decide_eq_true h64]; rfl)
            clear h64
            go_wp2_with fail
            refine hfl.mono ?_
            rintro e w9 ⟨rfl, hW9, ⟨u9, hO9, hu9⟩, hP9, hb9, hk9⟩
            have hX9 := hk9 _ _ hX
            unfold sV flS at hW9
            have fX9 := hX9.facts
            have fW9 := hW9.facts
            have fP9 := hP9.facts
            go_wp2
            go_roundw
            case rel => exact ⟨k + 1, by omega, by go_num, by rw [HT.out, HS.out]; unfold sV; rw [← HAE.out]; exact hW9.set_ 0 _, ⟨u9, by exact hO9.far (p := ⟨w.heap.size + 1, 0, none⟩) (by simp) _, by rw [HT.out, HS.out]; exact hu9.set (p := ⟨w.heap.size + 1, 0, none⟩) (Ne.symm (hu9.ne_blk hW9 (by decide))) _⟩, by rw [HT.out, HS.out]; exact hP9.far (p := ⟨w.heap.size + 1, 0, none⟩) (by simp) _, (hbx.trans hb9).setCell (p := ⟨w.heap.size + 1, 0, none⟩) (by simp) _⟩
            case measure => simp [intOf]; omega
          · have q1 : ((wd.length : Int) == 64) = false := beq_false_of_ne (by omega)
            have HS : Hid (plS (es, wd, (1 : Int)) (c, o) = (es, wd ++ [c], (1 : Int))) := by unfold Hid; exact plS_keep (by rw [HO.out]; rfl) (by unfold cutS; rw [HO.out, decide_eq_false h64]; rfl)
            clear h64
            go_wp2
            go_roundw
            case rel => exact ⟨k + 1, by omega, by go_num, by rw [HT.out, HS.out]; unfold sV; rw [← HAP.out]; exact hW.set_ 0 _, ⟨u, by exact hO.far (p := ⟨w.heap.size + 1, 0, none⟩) (by simp) _, by rw [HT.out, HS.out]; exact hu.set (p := ⟨w.heap.size + 1, 0, none⟩) (Ne.symm (hu.ne_blk hW (by decide))) _⟩, by rw [HT.out, HS.out]; exact hP.far (p := ⟨w.heap.size + 1, 0, none⟩) (by simp) _, hbx.setCell (p := ⟨w.heap.size + 1, 0, none⟩) (by simp) _⟩
            case measure => simp [intOf]; omega
        · by_cases h64 : wd.length = 64
          · have q1 : ((wd.length : Int) == 64) = true := by rw [h64]; rfl
            have HS : Hid (plS (es, wd, (-1 : Int)) (c, o) = ((flS (es, wd, -1)).1, [c], (0 : Int))) := by unfold Hid; exact plS_cut (by rw [HO.out]; rfl) (by unfold cutS; rw [HO.out, decide_eq_true h64]; rfl)
            clear h64
            go_wp2_with fail
            refine hfl.mono ?_
            rintro e w9 ⟨rfl, hW9, ⟨u9, hO9, hu9⟩, hP9, hb9, hk9⟩
            have hX9 := hk9 _ _ hX
            unfold sV flS at hW9
            have fX9 := hX9.facts
            have fW9 := hW9.facts
            have fP9 := hP9.facts
            go_wp2
            go_roundw
            case rel => exact ⟨k + 1, by omega, by go_num, by rw [HT.out, HS.out]; unfold sV; rw [← HAE.out]; exact hW9.set_ 0 _, ⟨u9, by exact hO9.far (p := ⟨w.heap.size + 1, 0, none⟩) (by simp) _, by rw [HT.out, HS.out]; exact hu9.set (p := ⟨w.heap.size + 1, 0, none⟩) (Ne.symm (hu9.ne_blk hW9 (by decide))) _⟩, by rw [HT.out, HS.out]; exact hP9.far (p := ⟨w.heap.size + 1, 0, none⟩) (by simp) _, (hbx.trans hb9).setCell (p := ⟨w.heap.size + 1, 0, none⟩) (by simp) _⟩
            case measure => simp [intOf]; omega
          · have q1 : ((wd.length : Int) == 64) = false := beq_false_of_ne (by omega)
            have HS : Hid (plS (es, wd, (-1 : Int)) (c, o) = (es, wd ++ [c], (-1 : Int))) := by unfold Hid; exact plS_keep (by rw [HO.out]; rfl) (by unfold cutS; rw [HO.out, decide_eq_false h64]; rfl)
            clear h64
            go_wp2
            go_roundw
            case rel => exact ⟨k + 1, by omega, by go_num, by rw [HT.out, HS.out]; unfold sV; rw [← HAP.out]; exact hW.set_ 0 _, ⟨u, by exact hO.far (p := ⟨w.heap.size + 1, 0, none⟩) (by simp) _, by rw [HT.out, HS.out]; exact hu.set (p := ⟨w.heap.size + 1, 0, none⟩) (Ne.symm (hu.ne_blk hW (by decide))) _⟩, by rw [HT.out, HS.out]; exact hP.far (p := ⟨w.heap.size + 1, 0, none⟩) (by simp) _, hbx.setCell (p := ⟨w.heap.size + 1, 0, none⟩) (by simp) _⟩
            case measure => simp [intOf]; omega
      · have t1 : ((c.toNat : Int) != 78) = true := by rw [bne_iff_ne]; intro h; exact hO1 (by rw [← UInt8.toNat_inj]; exact_mod_cast h)
        by_cases hO2 : o = true
        · subst hO2
          have HO : Hid (ownW (c, true) = 1) := by unfold Hid ownW; rw [if_neg hO1]; rfl
          clear hO1
          rcases hway with rfl | rfl | rfl
          · by_cases h64 : wd.length = 64
            · have q1 : ((wd.length : Int) == 64) = true := by rw [h64]; rfl
              have HS : Hid (plS (es, wd, (0 : Int)) (c, true) = ((flS (es, wd, 0)).1, [c], (1 : Int))) := by unfold Hid; exact plS_cut (by rw [HO.out]; rfl) (by unfold cutS; rw [HO.out, decide_eq_true h64]; rfl)
              clear h64
              go_wp2_with fail
              refine hfl.mono ?_
              rintro e w9 ⟨rfl, hW9, ⟨u9, hO9, hu9⟩, hP9, hb9, hk9⟩
              have hX9 := hk9 _ _ hX
              unfold sV flS at hW9
              have fX9 := hX9.facts
              have fW9 := hW9.facts
              have fP9 := hP9.facts
              go_wp2
              go_roundw
              case rel => exact ⟨k + 1, by omega, by go_num, by rw [HT.out, HS.out]; unfold sV; rw [← HAE.out]; exact (hW9.set_ 0 _).far (p := ⟨w.heap.size + 1 + 1, 0, none⟩) (by simp) _, ⟨u9, by exact (hO9.far (p := ⟨w.heap.size + 1, 0, none⟩) (by simp) _).far (p := ⟨w.heap.size + 1 + 1, 0, none⟩) (by show w.heap.size ≠ w.heap.size + 1 + 1; omega) _, by rw [HT.out, HS.out]; exact (hu9.set (p := ⟨w.heap.size + 1, 0, none⟩) (Ne.symm (hu9.ne_blk hW9 (by decide))) _).set (p := ⟨w.heap.size + 1 + 1, 0, none⟩) (Ne.symm (hu9.ne_blk hP9 (by decide))) _⟩, by rw [HT.out, HS.out]; exact (hP9.far (p := ⟨w.heap.size + 1, 0, none⟩) (by simp) _).set_ 0 _, ((hbx.trans hb9).setCell (p := ⟨w.heap.size + 1, 0, none⟩) (by simp) _).setCell (p := ⟨w.heap.size + 1 + 1, 0, none⟩) (by simp; omega) _⟩
              case measure => simp [intOf]; omega
            · have q1 : ((wd.length : Int) == 64) = false := beq_false_of_ne (by omega)
              have HS : Hid (plS (es, wd, (0 : Int)) (c, true) = (es, wd ++ [c], (1 : Int))) := by unfold Hid; exact plS_keep (by rw [HO.out]; rfl) (by unfold cutS; rw [HO.out, decide_eq_false h64]; rfl)
              clear h64
              go_wp2
              go_roundw
              case rel => exact ⟨k + 1, by omega, by go_num, by rw [HT.out, HS.out]; unfold sV; rw [← HAP.out]; exact (hW.set_ 0 _).far (p := ⟨w.heap.size + 1 + 1, 0, none⟩) (by simp) _, ⟨u, by exact (hO.far (p := ⟨w.heap.size + 1, 0, none⟩) (by simp) _).far (p := ⟨w.heap.size + 1 + 1, 0, none⟩) (by show w.heap.size ≠ w.heap.size + 1 + 1; omega) _, by rw [HT.out, HS.out]; exact (hu.set (p := ⟨w.heap.size + 1, 0, none⟩) (Ne.symm (hu.ne_blk hW (by decide))) _).set (p := ⟨w.heap.size + 1 + 1, 0, none⟩) (Ne.symm (hu.ne_blk hP (by decide))) _⟩, by rw [HT.out, HS.out]; exact (hP.far (p := ⟨w.heap.size + 1, 0, none⟩) (by simp) _).set_ 0 _, (hbx.setCell (p := ⟨w.heap.size + 1, 0, none⟩) (by simp) _).setCell (p := ⟨w.heap.size + 1 + 1, 0, none⟩) (by simp; omega) _⟩
              case measure => simp [intOf]; omega
          · by_cases h64 : wd.length = 64
            · have q1 : ((wd.length : Int) == 64) = true := by rw [h64]; rfl
              have HS : Hid (plS (es, wd, (1 : Int)) (c, true) = ((flS (es, wd, 1)).1, [c], (1 : Int))) := by unfold Hid; exact plS_cut (by rw [HO.out]; rfl) (by unfold cutS; rw [HO.out, decide_eq_true h64]; rfl)
              clear h64
              go_wp2_with fail
              refine hfl.mono ?_
              rintro e w9 ⟨rfl, hW9, ⟨u9, hO9, hu9⟩, hP9, hb9, hk9⟩
              have hX9 := hk9 _ _ hX
              unfold sV flS at hW9
              have fX9 := hX9.facts
              have fW9 := hW9.facts
              have fP9 := hP9.facts
              go_wp2
              go_roundw
              case rel => exact ⟨k + 1, by omega, by go_num, by rw [HT.out, HS.out]; unfold sV; rw [← HAE.out]; exact (hW9.set_ 0 _).far (p := ⟨w.heap.size + 1 + 1, 0, none⟩) (by simp) _, ⟨u9, by exact (hO9.far (p := ⟨w.heap.size + 1, 0, none⟩) (by simp) _).far (p := ⟨w.heap.size + 1 + 1, 0, none⟩) (by show w.heap.size ≠ w.heap.size + 1 + 1; omega) _, by rw [HT.out, HS.out]; exact (hu9.set (p := ⟨w.heap.size + 1, 0, none⟩) (Ne.symm (hu9.ne_blk hW9 (by decide))) _).set (p := ⟨w.heap.size + 1 + 1, 0, none⟩) (Ne.symm (hu9.ne_blk hP9 (by decide))) _⟩, by rw [HT.out, HS.out]; exact (hP9.far (p := ⟨w.heap.size + 1, 0, none⟩) (by simp) _).set_ 0 _, ((hbx.trans hb9).setCell (p := ⟨w.heap.size + 1, 0, none⟩) (by simp) _).setCell (p := ⟨w.heap.size + 1 + 1, 0, none⟩) (by simp; omega) _⟩
              case measure => simp [intOf]; omega
            · have q1 : ((wd.length : Int) == 64) = false := beq_false_of_ne (by omega)
              have HS : Hid (plS (es, wd, (1 : Int)) (c, true) = (es, wd ++ [c], (1 : Int))) := by unfold Hid; exact plS_keep (by rw [HO.out]; rfl) (by unfold cutS; rw [HO.out, decide_eq_false h64]; rfl)
              clear h64
              go_wp2
              go_roundw
              case rel => exact ⟨k + 1, by omega, by go_num, by rw [HT.out, HS.out]; unfold sV; rw [← HAP.out]; exact (hW.set_ 0 _).far (p := ⟨w.heap.size + 1 + 1, 0, none⟩) (by simp) _, ⟨u, by exact (hO.far (p := ⟨w.heap.size + 1, 0, none⟩) (by simp) _).far (p := ⟨w.heap.size + 1 + 1, 0, none⟩) (by show w.heap.size ≠ w.heap.size + 1 + 1; omega) _, by rw [HT.out, HS.out]; exact (hu.set (p := ⟨w.heap.size + 1, 0, none⟩) (Ne.symm (hu.ne_blk hW (by decide))) _).set (p := ⟨w.heap.size + 1 + 1, 0, none⟩) (Ne.symm (hu.ne_blk hP (by decide))) _⟩, by rw [HT.out, HS.out]; exact (hP.far (p := ⟨w.heap.size + 1, 0, none⟩) (by simp) _).set_ 0 _, (hbx.setCell (p := ⟨w.heap.size + 1, 0, none⟩) (by simp) _).setCell (p := ⟨w.heap.size + 1 + 1, 0, none⟩) (by simp; omega) _⟩
              case measure => simp [intOf]; omega
          · by_cases h64 : wd.length = 64
            · have q1 : ((wd.length : Int) == 64) = true := by rw [h64]; rfl
              have HS : Hid (plS (es, wd, (-1 : Int)) (c, true) = ((flS (es, wd, -1)).1, [c], (1 : Int))) := by unfold Hid; exact plS_cut (by rw [HO.out]; rfl) (by unfold cutS; rw [HO.out, decide_eq_true h64]; rfl)
              clear h64
              go_wp2_with fail
              refine hfl.mono ?_
              rintro e w9 ⟨rfl, hW9, ⟨u9, hO9, hu9⟩, hP9, hb9, hk9⟩
              have hX9 := hk9 _ _ hX
              unfold sV flS at hW9
              have fX9 := hX9.facts
              have fW9 := hW9.facts
              have fP9 := hP9.facts
              go_wp2
              go_roundw
              case rel => exact ⟨k + 1, by omega, by go_num, by rw [HT.out, HS.out]; unfold sV; rw [← HAE.out]; exact (hW9.set_ 0 _).far (p := ⟨w.heap.size + 1 + 1, 0, none⟩) (by simp) _, ⟨u9, by exact (hO9.far (p := ⟨w.heap.size + 1, 0, none⟩) (by simp) _).far (p := ⟨w.heap.size + 1 + 1, 0, none⟩) (by show w.heap.size ≠ w.heap.size + 1 + 1; omega) _, by rw [HT.out, HS.out]; exact (hu9.set (p := ⟨w.heap.size + 1, 0, none⟩) (Ne.symm (hu9.ne_blk hW9 (by decide))) _).set (p := ⟨w.heap.size + 1 + 1, 0, none⟩) (Ne.symm (hu9.ne_blk hP9 (by decide))) _⟩, by rw [HT.out, HS.out]; exact (hP9.far (p := ⟨w.heap.size + 1, 0, none⟩) (by simp) _).set_ 0 _, ((hbx.trans hb9).setCell (p := ⟨w.heap.size + 1, 0, none⟩) (by simp) _).setCell (p := ⟨w.heap.size + 1 + 1, 0, none⟩) (by simp; omega) _⟩
              case measure => simp [intOf]; omega
            · have q1 : ((wd.length : Int) == 64) = false := beq_false_of_ne (by omega)
              have HS : Hid (plS (es, wd, (-1 : Int)) (c, true) = ((flS (es, wd, -1)).1, [c], (1 : Int))) := by unfold Hid; exact plS_cut (by rw [HO.out]; rfl) (by unfold cutS; rw [HO.out, decide_eq_false h64]; rfl)
              clear h64
              go_wp2_with fail
              refine hfl.mono ?_
              rintro e w9 ⟨rfl, hW9, ⟨u9, hO9, hu9⟩, hP9, hb9, hk9⟩
              have hX9 := hk9 _ _ hX
              unfold sV flS at hW9
              have fX9 := hX9.facts
              have fW9 := hW9.facts
              have fP9 := hP9.facts
              go_wp2
              go_roundw
              case rel => exact ⟨k + 1, by omega, by go_num, by rw [HT.out, HS.out]; unfold sV; rw [← HAE.out]; exact (hW9.set_ 0 _).far (p := ⟨w.heap.size + 1 + 1, 0, none⟩) (by simp) _, ⟨u9, by exact (hO9.far (p := ⟨w.heap.size + 1, 0, none⟩) (by simp) _).far (p := ⟨w.heap.size + 1 + 1, 0, none⟩) (by show w.heap.size ≠ w.heap.size + 1 + 1; omega) _, by rw [HT.out, HS.out]; exact (hu9.set (p := ⟨w.heap.size + 1, 0, none⟩) (Ne.symm (hu9.ne_blk hW9 (by decide))) _).set (p := ⟨w.heap.size + 1 + 1, 0, none⟩) (Ne.symm (hu9.ne_blk hP9 (by decide))) _⟩, by rw [HT.out, HS.out]; exact (hP9.far (p := ⟨w.heap.size + 1, 0, none⟩) (by simp) _).set_ 0 _, ((hbx.trans hb9).setCell (p := ⟨w.heap.size + 1, 0, none⟩) (by simp) _).setCell (p := ⟨w.heap.size + 1 + 1, 0, none⟩) (by simp; omega) _⟩
              case measure => simp [intOf]; omega
        · obtain rfl : o = false := by simpa using hO2
          have HO : Hid (ownW (c, false) = -1) := by unfold Hid ownW; rw [if_neg hO1]; rfl
          clear hO1 hO2
          rcases hway with rfl | rfl | rfl
          · by_cases h64 : wd.length = 64
            · have q1 : ((wd.length : Int) == 64) = true := by rw [h64]; rfl
              have HS : Hid (plS (es, wd, (0 : Int)) (c, false) = ((flS (es, wd, 0)).1, [c], (-1 : Int))) := by unfold Hid; exact plS_cut (by rw [HO.out]; rfl) (by unfold cutS; rw [HO.out, decide_eq_true h64]; rfl)
              clear h64
              go_wp2_with fail
              refine hfl.mono ?_
              rintro e w9 ⟨rfl, hW9, ⟨u9, hO9, hu9⟩, hP9, hb9, hk9⟩
              have hX9 := hk9 _ _ hX
              unfold sV flS at hW9
              have fX9 := hX9.facts
              have fW9 := hW9.facts
              have fP9 := hP9.facts
              go_wp2
              go_roundw
              case rel => exact ⟨k + 1, by omega, by go_num, by rw [HT.out, HS.out]; unfold sV; rw [← HAE.out]; exact (hW9.set_ 0 _).far (p := ⟨w.heap.size + 1 + 1, 0, none⟩) (by simp) _, ⟨u9, by exact (hO9.far (p := ⟨w.heap.size + 1, 0, none⟩) (by simp) _).far (p := ⟨w.heap.size + 1 + 1, 0, none⟩) (by show w.heap.size ≠ w.heap.size + 1 + 1; omega) _, by rw [HT.out, HS.out]; exact (hu9.set (p := ⟨w.heap.size + 1, 0, none⟩) (Ne.symm (hu9.ne_blk hW9 (by decide))) _).set (p := ⟨w.heap.size + 1 + 1, 0, none⟩) (Ne.symm (hu9.ne_blk hP9 (by decide))) _⟩, by rw [HT.out, HS.out]; exact (hP9.far (p := ⟨w.heap.size + 1, 0, none⟩) (by simp) _).set_ 0 _, ((hbx.trans hb9).setCell (p := ⟨w.heap.size + 1, 0, none⟩) (by simp) _).setCell (p := ⟨w.heap.size + 1 + 1, 0, none⟩) (by simp; omega) _⟩
              case measure => simp [intOf]; omega
            · have q1 : ((wd.length : Int) == 64) = false := beq_false_of_ne (by omega)
              have HS : Hid (plS (es, wd, (0 : Int)) (c, false) = (es, wd ++ [c], (-1 : Int))) := by unfold Hid; exact plS_keep (by rw [HO.out]; rfl) (by unfold cutS; rw [HO.out, decide_eq_false h64]; rfl)
              clear h64
              go_wp2
              go_roundw
              case rel => exact ⟨k + 1, by omega, by go_num, by rw [HT.out, HS.out]; unfold sV; rw [← HAP.out]; exact (hW.set_ 0 _).far (p := ⟨w.heap.size + 1 + 1, 0, none⟩) (by simp) _, ⟨u, by exact (hO.far (p := ⟨w.heap.size + 1, 0, none⟩) (by simp) _).far (p := ⟨w.heap.size + 1 + 1, 0, none⟩) (by show w.heap.size ≠ w.heap.size + 1 + 1; omega) _, by rw [HT.out, HS.out]; exact (hu.set (p := ⟨w.heap.size + 1, 0, none⟩) (Ne.symm (hu.ne_blk hW (by decide))) _).set (p := ⟨w.heap.size + 1 + 1, 0, none⟩) (Ne.symm (hu.ne_blk hP (by decide))) _⟩, by rw [HT.out, HS.out]; exact (hP.far (p := ⟨w.heap.size + 1, 0, none⟩) (by simp) _).set_ 0 _, (hbx.setCell (p := ⟨w.heap.size + 1, 0, none⟩) (by simp) _).setCell (p := ⟨w.heap.size + 1 + 1, 0, none⟩) (by simp; omega) _⟩
              case measure => simp [intOf]; omega
          · by_cases h64 : wd.length = 64
            · have q1 : ((wd.length : Int) == 64) = true := by rw [h64]; rfl
              have HS : Hid (plS (es, wd, (1 : Int)) (c, false) = ((flS (es, wd, 1)).1, [c], (-1 : Int))) := by unfold Hid; exact plS_cut (by rw [HO.out]; rfl) (by unfold cutS; rw [HO.out, decide_eq_true h64]; rfl)
              clear h64
              go_wp2_with fail
              refine hfl.mono ?_
              rintro e w9 ⟨rfl, hW9, ⟨u9, hO9, hu9⟩, hP9, hb9, hk9⟩
              have hX9 := hk9 _ _ hX
              unfold sV flS at hW9
              have fX9 := hX9.facts
              have fW9 := hW9.facts
              have fP9 := hP9.facts
              go_wp2
              go_roundw
              case rel => exact ⟨k + 1, by omega, by go_num, by rw [HT.out, HS.out]; unfold sV; rw [← HAE.out]; exact (hW9.set_ 0 _).far (p := ⟨w.heap.size + 1 + 1, 0, none⟩) (by simp) _, ⟨u9, by exact (hO9.far (p := ⟨w.heap.size + 1, 0, none⟩) (by simp) _).far (p := ⟨w.heap.size + 1 + 1, 0, none⟩) (by show w.heap.size ≠ w.heap.size + 1 + 1; omega) _, by rw [HT.out, HS.out]; exact (hu9.set (p := ⟨w.heap.size + 1, 0, none⟩) (Ne.symm (hu9.ne_blk hW9 (by decide))) _).set (p := ⟨w.heap.size + 1 + 1, 0, none⟩) (Ne.symm (hu9.ne_blk hP9 (by decide))) _⟩, by rw [HT.out, HS.out]; exact (hP9.far (p := ⟨w.heap.size + 1, 0, none⟩) (by simp) _).set_ 0 _, ((hbx.trans hb9).setCell (p := ⟨w.heap.size + 1, 0, none⟩) (by simp) _).setCell (p := ⟨w.heap.size + 1 + 1, 0, none⟩) (by simp; omega) _⟩
              case measure => simp [intOf]; omega
            · have q1 : ((wd.length : Int) == 64) = false := beq_false_of_ne (by omega)
              have HS : Hid (plS (es, wd, (1 : Int)) (c, false) = ((flS (es, wd, 1)).1, [c], (-1 : Int))) := by unfold Hid; exact plS_cut (by rw [HO.out]; rfl) (by unfold cutS; rw [HO.out, decide_eq_false h64]; rfl)
              clear h64
              go_wp2_with fail
              refine hfl.mono ?_
              rintro e w9 ⟨rfl, hW9, ⟨u9, hO9, hu9⟩, hP9, hb9, hk9⟩
              have hX9 := hk9 _ _ hX
              unfold sV flS at hW9
              have fX9 := hX9.facts
              have fW9 := hW9.facts
              have fP9 := hP9.facts
              go_wp2
              go_roundw
              case rel => exact ⟨k + 1, by omega, by go_num, by rw [HT.out, HS.out]; unfold sV; rw [← HAE.out]; exact (hW9.set_ 0 _).far (p := ⟨w.heap.size + 1 + 1, 0, none⟩) (by simp) _, ⟨u9, by exact (hO9.far (p := ⟨w.heap.size + 1, 0, none⟩) (by simp) _).far (p := ⟨w.heap.size + 1 + 1, 0, none⟩) (by show w.heap.size ≠ w.heap.size + 1 + 1; omega) _, by rw [HT.out, HS.out]; exact (hu9.set (p := ⟨w.heap.size + 1, 0, none⟩) (Ne.symm (hu9.ne_blk hW9 (by decide))) _).set (p := ⟨w.heap.size + 1 + 1, 0, none⟩) (Ne.symm (hu9.ne_blk hP9 (by decide))) _⟩, by rw [HT.out, HS.out]; exact (hP9.far (p := ⟨w.heap.size + 1, 0, none⟩) (by simp) _).set_ 0 _, ((hbx.trans hb9).setCell (p := ⟨w.heap.size + 1, 0, none⟩) (by simp) _).setCell (p := ⟨w.heap.size + 1 + 1, 0, none⟩) (by simp; omega) _⟩
              case measure => simp [intOf]; omega
          · by_cases h64 : wd.length = 64
            · have q1 : ((wd.length : Int) == 64) = true := by rw [h64]; rfl
              have HS : Hid (plS (es, wd, (-1 : Int)) (c, false) = ((flS (es, wd, -1)).1, [c], (-1 : Int))) := by unfold Hid; exact plS_cut (by rw [HO.out]; rfl) (by unfold cutS; rw [HO.out, decide_eq_true h64]; rfl)
              clear h64
              go_wp2_with fail
              refine hfl.mono ?_
              rintro e w9 ⟨rfl, hW9, ⟨u9, hO9, hu9⟩, hP9, hb9, hk9⟩
              have hX9 := hk9 _ _ hX
              unfold sV flS at hW9
              have fX9 := hX9.facts
              have fW9 := hW9.facts
              have fP9 := hP9.facts
              go_wp2
              go_roundw
              case rel => exact ⟨k + 1, by omega, by go_num, by rw [HT.out, HS.out]; unfold sV; rw [← HAE.out]; exact (hW9.set_ 0 _).far (p := ⟨w.heap.size + 1 + 1, 0, none⟩) (by simp) _, ⟨u9, by exact (hO9.far (p := ⟨w.heap.size + 1, 0, none⟩) (by simp) _).far (p := ⟨w.heap.size + 1 + 1, 0, none⟩) (by show w.heap.size ≠ w.heap.size + 1 + 1; omega) _, by rw [HT.out, HS.out]; exact (hu9.set (p := ⟨w.heap.size + 1, 0, none⟩) (Ne.symm (hu9.ne_blk hW9 (by decide))) _).set (p := ⟨w.heap.size + 1 + 1, 0, none⟩) (Ne.symm (hu9.ne_blk hP9 (by decide))) _⟩, by rw [HT.out, HS.out]; exact (hP9.far (p := ⟨w.heap.size + 1, 0, none⟩) (by simp) _).set_ 0 _, ((hbx.trans hb9).setCell (p := ⟨w.heap.size + 1, 0, none⟩) (by simp) _).setCell (p := ⟨w.heap.size + 1 + 1, 0, none⟩) (by simp; omega) _⟩
              case measure => simp [intOf]; omega
            · have q1 : ((wd.length : Int) == 64) = false := beq_false_of_ne (by omega)
              have HS : Hid (plS (es, wd, (-1 : Int)) (c, false) = (es, wd ++ [c], (-1 : Int))) := by unfold Hid; exact plS_keep (by rw [HO.out]; rfl) (by unfold cutS; rw [HO.out, decide_eq_false h64]; rfl)
              clear h64
              go_wp2
              go_roundw
              case rel => exact ⟨k + 1, by omega, by go_num, by rw [HT.out, HS.out]; unfold sV; rw [← HAP.out]; exact (hW.set_ 0 _).far (p := ⟨w.heap.size + 1 + 1, 0, none⟩) (by simp) _, ⟨u, by exact (hO.far (p := ⟨w.heap.size + 1, 0, none⟩) (by simp) _).far (p := ⟨w.heap.size + 1 + 1, 0, none⟩) (by show w.heap.size ≠ w.heap.size + 1 + 1; omega) _, by rw [HT.out, HS.out]; exact (hu.set (p := ⟨w.heap.size + 1, 0, none⟩) (Ne.symm (hu.ne_blk hW (by decide))) _).set (p := ⟨w.heap.size + 1 + 1, 0, none⟩) (Ne.symm (hu.ne_blk hP (by decide))) _⟩, by rw [HT.out, HS.out]; exact (hP.far (p := ⟨w.heap.size + 1, 0, none⟩) (by simp) _).set_ 0 _, (hbx.setCell (p := ⟨w.heap.size + 1, 0, none⟩) (by simp) _).setCell (p := ⟨w.heap.size + 1 + 1, 0, none⟩) (by simp; omega) _⟩
              case measure => simp [intOf]; omega
    · obtain rfl : k = l.length := by omega
      rw [List.take_length] at hW hu hP hel
      have hfl := flush_any w.heap.size (w.heap.size + 1) w.heap.size (w.heap.size + 1 + 1) w.heap.size (plF l) u wo hW hO hu hP (by omega) (by omega) (Nat.le_refl _) (by omega) (Nat.le_refl _) hbk.size
      go_wp2_with fail
      refine hfl.mono ?_
      rintro e w9 ⟨rfl, _, ⟨u9, hO9, hu9⟩, _, hb9, _⟩
      have f9 := hO9.facts
      go_wp2
      go_ret
      exact ⟨_, rfl, hu9, hbk.trans hb9⟩
end Go.Proofs.YthkjgcldolnjaaaGreatDoor

/- The reader of panels: edge, walked. Conditions: the variables are laid. -/
import Derived.Test.YtpcgeihemkhkjaaGreatDoorS23
import Derived.Test.YtpcgeihemkhkjaaGreatDoorS21
import Derived.Test.YtpcgeihemkhkjaaGreatDoorS22
import Derived.Test.YtpcgeihemkhkjaaGreatDoorS06
namespace Go.Proofs.YtpcgeihemkhkjaaGreatDoor
open Go.RowKit Go.ChangeMaps
set_option maxHeartbeats 4000000
set_option maxRecDepth 100000
attribute [local go_sem] Oper.semAt_some
theorem Chg.then_grown {S : List Nat} {w A B : World} {row : Option Nat} (h : Chg S w A) (g : A.grownBy B row) (hr : ∀ k, row = some k → w.heap.size ≤ k) : Chg S w B :=
 ⟨g.os.trans h.os, g.tape.trans h.tape, g.output.trans h.output, Nat.le_trans h.size g.size, fun i h1 h2 => (g.block i (Nat.lt_of_lt_of_le h1 h.size) (fun e => by have := hr i e.symm; omega)).trans (h.block i h1 h2)⟩
theorem Zj5 {a b : Str} : (({ data := a.toArray } : ByteArray) == { data := b.toArray }) = decide (a = b) := by
 rw [Bool.eq_iff_iff, MapKept.bytes_beq, decide_eq_true_iff]
 exact ⟨fun e => by
  have := congrArg (fun x : ByteArray => x.data.toList) e
  simpa using this, fun e => by rw [e]⟩
theorem Zj6 : Z3i Tryz.prog 9 sV where
 und := ⟨.string, by kernel_rfl, .inr fun a b => by simp only [Instr.sameNow, sV, Zj5]⟩
 eq a b w := by
  have h : Tryz.prog.underlying 9 = some .string := by kernel_rfl
  unfold Op.equal Op.maxDepth sV; rw [Op.equalIn]; simp only [Sem.run_bind, run_underlying h, Result.andThen_ok]; simp only [Zj5]; rfl
 ok e a w := by
  have h : Tryz.prog.underlying 9 = some .string := by kernel_rfl
  unfold sV; rw [Instr.checkKey]; simp only [Sem.run_bind, run_underlying h, Result.andThen_ok]; rfl
 same a := by simp only [Instr.sameBits, sV, Zj5, decide_true]
def plc (x : Plc) : List Value := [.int .i64 x.1, .bool x.2.1, .int .i64 x.2.2]
def blc (x : Bal) : List Value := [sV x.1, .int .i64 x.2.1, .int .i64 x.2.2]
theorem Zj7 (x : Plc) : (plc x).length = 3 := rfl
theorem Zj8 (x : Bal) : (blc x).length = 3 := rfl
theorem Zj9 (b : Plc) : ∀ u ∈ plc b, u.oneCell' = true := by intro u hu; simp [plc] at hu; rcases hu with rfl | rfl | rfl <;> rfl
abbrev SlL := Sl plc 3
theorem Zja : Elem Tryz.prog 28 100 3 24 := ⟨by kernel_rfl, by kernel_rfl, by decide⟩
theorem Rd.plc {w : World} {A : Option Addr} {l : List Plc} (h : Rd plc 3 w A l) {k : Nat} (hk : k < l.length) : ∃ b off, A = some ⟨b, off, none⟩ ∧ b < w.heap.size ∧
  w.cell? ⟨b, off + k * 3, none⟩ = some (.int .i64 l[k].1) ∧ w.cell? ⟨b, off + k * 3 + 1, none⟩ = some (.bool l[k].2.1) ∧ w.cell? ⟨b, off + k * 3 + 2, none⟩ = some (.int .i64 l[k].2.2) := by
 obtain ⟨b, off, e, hlt, hc⟩ := h k l[k] (List.getElem?_eq_getElem hk)
 exact ⟨b, off, e, hlt, by simpa using hc 0 _ rfl, hc 1 _ rfl, hc 2 _ rfl⟩
theorem Rd.bal {w : World} {A : Option Addr} {l : List Bal} (h : Rd blc 3 w A l) {k : Nat} (hk : k < l.length) : ∃ b off, A = some ⟨b, off, none⟩ ∧ b < w.heap.size ∧
  w.cell? ⟨b, off + k * 3, none⟩ = some (.string ⟨l[k].1.toArray⟩) ∧ w.cell? ⟨b, off + k * 3 + 1, none⟩ = some (.int .i64 l[k].2.1) ∧ w.cell? ⟨b, off + k * 3 + 2, none⟩ = some (.int .i64 l[k].2.2) := by
 obtain ⟨b, off, e, hlt, hc⟩ := h k l[k] (List.getElem?_eq_getElem hk)
 exact ⟨b, off, e, hlt, hc 0 _ rfl, hc 1 _ rfl, hc 2 _ rfl⟩
theorem Zjb (b : Bool) (n : Int) (w : World) : Calls Tryz.prog 59 #[.bool b, .int .i64 n] w (RV w (.int .i64 (Z15 b n))) := by
 cases b
 all_goals
  go_enter Tryz.func59, Tryz.ntmps59
  go_wp2; go_ret; exact ⟨rfl, Z03⟩
theorem Zjc (n lo hi : Int) (w : World) : Calls Tryz.prog 127 #[.int .i64 n, .int .i64 lo, .int .i64 hi] w (RV w (.int .i64 (Z16 n lo hi))) := by
 go_enter Tryz.func127, Tryz.ntmps127
 go_wp2_with (go_at_call 59; refine (Zjb _ _ _).mono ?_; rintro e w1 ⟨rfl, hb1⟩)
 all_goals go_ret
 ·exact ⟨rfl, hb1⟩
 ·exact ⟨Z0b (by simp [Z16, *]), hb1⟩
theorem Zjd (l : List Int) (A : Option Addr) (c : Nat) (w : World) (hl : l.length ≤ maxLen) (h : Rd ic 1 w A l) :
  Calls Tryz.prog 56 #[.slice A l.length c] w (RV w (.int .i64 (Z17 l))) := by
 unfold maxLen at hl
 go_enter Tryz.func56, Tryz.ntmps56
 go_wp2
 go_loop [7] (fun i => ∃ k : Nat, k ≤ l.length ∧ i = .int .i64 k ∧ Hid (Z17 l = Z17 (l.drop k))) (fun i => l.length - (intOf i).toNat)
 case atStart => exact ⟨0, Nat.zero_le _, rfl, rfl⟩
 case round =>
  obtain ⟨k, hk, rfl, H⟩ := hrel; by_cases hlt : k < l.length
  ·obtain ⟨b, off, rfl, hb, hc⟩ := h.int hlt
   have hd := Lib.hid (Z18 hlt)
   go_wp2
   ·have hne : (l[k] != 0) = true := by assumption
    go_ret; refine ⟨Z0b ?_, Z03⟩
    rw [H.out, hd.out, if_neg (by simpa using hne)]
   ·have hne : (l[k] != 0) = false := by assumption
    go_round
    case rel => exact ⟨k + 1, by omega, by go_num, by rw [H.out, hd.out, if_pos (by simpa using hne)]; rfl⟩
    case measure => simp [intOf]; omega
  ·have hkl : k = l.length := by omega
   go_wp2; go_ret; refine ⟨Z0b ?_, Z03⟩
   rw [H.out, hkl, List.drop_length]; rfl
def stV (a : Strp) : Value := .agg #[.int .i64 a.1, .int .i64 a.2.1, .int .i64 a.2.2.1, .int .i64 a.2.2.2]
theorem Zje (a b : Strp) (ha : Zaz a) (hb : Zaz b) (w : World) : Calls Tryz.prog 160 #[stV a, stV b] w (RV w (.tuple #[.int .i64 (Zig a b).1, .int .i64 (Zig a b).2])) := by
 obtain ⟨a0, a1, a2, a3⟩ := a
 obtain ⟨b0, b1, b2, b3⟩ := b
 unfold Zaz at ha hb
 unfold stV Zig
 simp only at ha hb ⊢
 have hA := (Blk.new w 234 #[.int .i64 a0, .int .i64 a1, .int .i64 a2, .int .i64 a3]).alloc (.cells #[.int .i64 b0, .int .i64 b1, .int .i64 b2, .int .i64 b3] 234)
 have hB := Blk.new1 w (.cells #[.int .i64 a0, .int .i64 a1, .int .i64 a2, .int .i64 a3] 234) 234 #[.int .i64 b0, .int .i64 b1, .int .i64 b2, .int .i64 b3]
 have fA := hA.facts
 have fB := hB.facts
 go_enter Tryz.func160, Tryz.ntmps160
 go_wp2
 refine Z0z [0, 1, 2, 3, 4, 5, 6, 7, 8, 9, 10, 11, 12, 13, 14, 15] [] [] (by kernel_rfl) (by kernel_rfl) (fun d _ _ _ _ h => by cases d <;> exact h) ?_
 simp only [List.map_cons, List.map_nil, List.getD_cons_zero, List.getD_cons_succ]
 repeat (go_big_quiet_step (fail))
 refine wpQuiet_nil ?_
 refine Z10 ?_
 go_wp2
 refine bodyPost_ret (v := .tuple #[.int .i64 (a1 - b0), .int .i64 (a3 - b2)]) (by simp [results, Tryz.results160, go_sem]) rfl ?_
 exact ⟨rfl, by (repeat first|exact J0|assumption|(apply J1;assumption)|apply J2|apply J3|apply J4)⟩
def comB (a b : Strp) (g : Int) : Bool := decide ((Zig a b).1 = g) && (decide ((Zig a b).2 = g) && decide (a.2.1 ≠ a.2.2.2))
theorem Zjf (a b : Strp) (g : Int) (ha : Zaz a) (hb : Zaz b) (w : World) : Calls Tryz.prog 161 #[stV a, stV b, .int .i64 g] w (RV w (.bool (comB a b g))) := by
 have hn := fun W => Zje a b ha hb W
 have HC : Hid (comB a b g = (decide ((Zig a b).1 = g) && (decide ((Zig a b).2 = g) && decide (a.2.1 ≠ a.2.2.2)))) := rfl
 obtain ⟨⟨n1, n2⟩, hN⟩ : ∃ z, Zig a b = z := ⟨_, rfl⟩
 rw [hN] at hn HC
 clear hN
 obtain ⟨a0, a1, a2, a3⟩ := a
 obtain ⟨b0, b1, b2, b3⟩ := b
 unfold stV at hn ⊢
 simp only at hn ⊢
 have hA := (Blk.new w 234 #[.int .i64 a0, .int .i64 a1, .int .i64 a2, .int .i64 a3]).alloc (.cells #[.int .i64 b0, .int .i64 b1, .int .i64 b2, .int .i64 b3] 234)
 have hB := Blk.new1 w (.cells #[.int .i64 a0, .int .i64 a1, .int .i64 a2, .int .i64 a3] 234) 234 #[.int .i64 b0, .int .i64 b1, .int .i64 b2, .int .i64 b3]
 have fhA := hA.facts
 have fB := hB.facts
 clear ha hb
 go_enter Tryz.func161, Tryz.ntmps161
 go_wp2_with fail
 refine (hn _).mono ?_
 rintro e w2 ⟨rfl, hb2⟩
 replace hA := hA.below (show Below _ _ w2 by (repeat first|exact J0|assumption|(apply J1;assumption)|apply J2|apply J3|apply J4))
 replace fhA := hA.facts
 clear hn
 by_cases h1 : n1 = g
 ·have t1 : (n1 == g) = true := by simp [h1]
  by_cases h2 : n2 = g
  ·have t2 : (n2 == g) = true := by simp [h2]
   have HV : Hid (comB (a0, a1, a2, a3) (b0, b1, b2, b3) g = (a1 != a3)) := by
    unfold Hid; rw [HC.out, decide_eq_true h1, decide_eq_true h2]
    by_cases h3 : a1 = a3 <;> simp [h3]
   clear h1 h2; go_wp2; go_ret; exact ⟨by rw [HV.out]; rfl, by (repeat first|exact J0|assumption|(apply J1;assumption)|apply J2|apply J3|apply J4)⟩
  ·have t2 : (n2 == g) = false := by simp [h2]
   have HV : Hid (comB (a0, a1, a2, a3) (b0, b1, b2, b3) g = false) := by unfold Hid; rw [HC.out, decide_eq_false h2]; simp
   clear h1 h2; go_wp2; go_ret; exact ⟨by rw [HV.out]; rfl, by (repeat first|exact J0|assumption|(apply J1;assumption)|apply J2|apply J3|apply J4)⟩
 ·have t1 : (n1 == g) = false := by simp [h1]
  have HV : Hid (comB (a0, a1, a2, a3) (b0, b1, b2, b3) g = false) := by unfold Hid; rw [HC.out, decide_eq_false h1]; simp
  clear h1; go_wp2; go_ret; exact ⟨by rw [HV.out]; rfl, by (repeat first|exact J0|assumption|(apply J1;assumption)|apply J2|apply J3|apply J4)⟩
theorem Zjg (n : Int) (w : World) : Calls Tryz.prog 123 #[.int .i64 n] w (RV w (.int .i64 (atE_ n))) := by
 have hf2 : ∀ A c' W, Rd ic 1 W A [Z16 n (-100000) 100000, Z15 (decide (n % 2 ≠ 0)) 14] → Calls Tryz.prog 56 #[.slice A 2 c'] W (RV W (.int .i64 (atE_ n))) := fun A c' W hr => Zjd [Z16 n (-100000) 100000, Z15 (decide (n % 2 ≠ 0)) 14] A c' W (by simp [maxLen]) hr
 have ht : (n.tmod 2 != 0) = decide (n % 2 ≠ 0) := by
  by_cases h : n % 2 = 0
  ·simp [h, Zfa.2 h]
  ·have : n.tmod 2 ≠ 0 := fun e => h (Zfa.1 e)
   simp [h, this]
 obtain ⟨q, hq⟩ : ∃ q, decide (n % 2 ≠ 0) = q := ⟨_, rfl⟩
 rw [hq] at ht hf2
 clear hq
 go_enter Tryz.func123, Tryz.ntmps123
 go_wp2_with fail
 refine (Zjc n (-100000) 100000 _).mono ?_
 rintro e w2 ⟨rfl, hb2⟩
 go_wp2_with fail
 refine (Zjb _ 14 _).mono ?_
 rintro e w3 ⟨rfl, hb3⟩
 go_wp2_with fail
 go_must (refine (hf2 _ _ _ (Rd.ints2 (by simp) (by go_simp) (by go_simp))).mono ?_)
 rintro e w4 ⟨rfl, hb4⟩
 go_wp2
 go_ret
 exact ⟨rfl, by (repeat first|exact J0|assumption|(apply J1;assumption)|apply J2|apply J3|apply J4)⟩
def balE (b : Bal) : Int := Z17 [Z15 (!Z6k b.1) 8, Z16 b.2.1 1 256, Z16 b.2.2 1 2000]
theorem Zjh (b : Bal) (hnm : b.1.length ≤ 1000000) (w : World) : Calls Tryz.prog 57 #[.agg #[sV b.1, .int .i64 b.2.1, .int .i64 b.2.2]] w (RV w (.int .i64 (balE b))) := by
 have hf3 : ∀ A c' W, Rd ic 1 W A [Z15 (!Z6k b.1) 8, Z16 b.2.1 1 256, Z16 b.2.2 1 2000] → Calls Tryz.prog 56 #[.slice A 3 c'] W (RV W (.int .i64 (balE b))) := fun A c' W hr => Zjd [Z15 (!Z6k b.1) 8, Z16 b.2.1 1 256, Z16 b.2.2 1 2000] A c' W (by simp [maxLen]) hr
 have hcn := fun W => Z6n b.1 hnm W
 obtain ⟨E, hE⟩ : ∃ E, balE b = E := ⟨_, rfl⟩
 rw [hE] at hf3 ⊢
 clear hE
 obtain ⟨nm, rw_, ln⟩ := b
 simp only at hcn hf3 ⊢
 unfold sV at hcn ⊢
 obtain ⟨bn, hbn⟩ : ∃ b, Z6k nm = b := ⟨_, rfl⟩
 rw [hbn] at hf3 hcn
 clear hbn
 have hP := Blk.new w 27 #[.string ⟨nm.toArray⟩, .int .i64 rw_, .int .i64 ln]
 go_enter Tryz.func57, Tryz.ntmps57
 go_upto_region 1 with fail
 obtain ⟨w1, hw1⟩ : ∃ X, w.alloc (.cells #[.string ⟨nm.toArray⟩, .int .i64 rw_, .int .i64 ln] 27) = X := ⟨_, rfl⟩
 have hb1 : Below w.heap.size w w1 := by rw [← hw1]; exact Z04 Z03 _
 rw [hw1] at hP ⊢
 clear hw1
 have fhP := hP.facts
 refine Z0z [0, 1, 5, 6, 8, 9] [(2, false), (3, false), (4, false), (7, false)] [10, 11, 12, 13] (by kernel_rfl) (by kernel_rfl) (fun d _ _ _ _ h => by cases d <;> exact h) ?_
 simp only [List.map_cons, List.map_nil, List.getD_cons_zero, List.getD_cons_succ]
 repeat (go_big_quiet_step (fail))
 refine wpQuiet_nil ?_
 refine Z11 rfl (fun K hK => ?_)
 go_simp
 refine (hcn _).mono ?_
 rintro e w2 ⟨rfl, hb2⟩
 refine hK _ _ (by (repeat first|exact J0|assumption|(apply J1;assumption)|apply J2|apply J3|apply J4)) ?_
 clear hK K
 have hP_w2 := hP.below (show Below _ _ w2 by (repeat first|exact J0|assumption|(apply J1;assumption)|apply J2|apply J3|apply J4))
 have fhP_w2 := hP_w2.facts
 refine Z11 rfl (fun K hK => ?_)
 go_simp
 refine hK _ _ (by (repeat first|exact J0|assumption|(apply J1;assumption)|apply J2|apply J3|apply J4)) ?_
 clear hK K
 refine Z11 rfl (fun K hK => ?_)
 go_simp
 refine (Zjb _ 8 _).mono ?_
 rintro e w3 ⟨rfl, hb3⟩
 refine hK _ _ (by (repeat first|exact J0|assumption|(apply J1;assumption)|apply J2|apply J3|apply J4)) ?_
 clear hK K
 have hP_w3 := hP.below (show Below _ _ w3 by (repeat first|exact J0|assumption|(apply J1;assumption)|apply J2|apply J3|apply J4))
 have fhP_w3 := hP_w3.facts
 refine Z11 rfl (fun K hK => ?_)
 go_simp
 refine (Zjc rw_ 1 256 _).mono ?_
 rintro e w4 ⟨rfl, hb4⟩
 refine hK _ _ (by (repeat first|exact J0|assumption|(apply J1;assumption)|apply J2|apply J3|apply J4)) ?_
 clear hK K
 have hP_w4 := hP.below (show Below _ _ w4 by (repeat first|exact J0|assumption|(apply J1;assumption)|apply J2|apply J3|apply J4))
 have fhP_w4 := hP_w4.facts
 refine Z10 ?_
 go_wp2_with (go_at_call 127; refine (Zjc _ _ _ _).mono ?_; rintro e w5 ⟨rfl, hb5⟩)
 go_must (refine (hf3 _ _ _ (Rd.ints3 (by simp) (by go_simp) (by go_simp) (by go_simp))).mono ?_)
 rintro e w7 ⟨rfl, hb7⟩
 go_wp2
 go_ret
 exact ⟨rfl, by (repeat first|exact J0|assumption|(apply J1;assumption)|apply J2|apply J3|apply J4)⟩
abbrev WyV := SlV × Int × Int × SlV
abbrev PcV := WyV × WyV
def pcc (x : PcV) : List Value := [slV x.1.1, .int .i64 x.1.2.1, .int .i64 x.1.2.2.1, slV x.1.2.2.2, slV x.2.1, .int .i64 x.2.2.1, .int .i64 x.2.2.2.1, slV x.2.2.2.2]
theorem Zji (x : PcV) : (pcc x).length = 8 := rfl
theorem Zjj (b : PcV) : ∀ u ∈ pcc b, u.oneCell' = true := by intro u hu; simp [pcc] at hu; rcases hu with rfl | rfl | rfl | rfl | rfl | rfl | rfl | rfl <;> rfl
theorem Zjk : Elem Tryz.prog 116 123 8 128 := ⟨by kernel_rfl, by kernel_rfl, by decide⟩
structure WyAt (w : World) (x : WyV) (p : Pan) : Prop where
 st : SlT w (slV x.1) (Z6y p)
 lo : x.2.1 = (Zin p).1
 hi : x.2.2.1 = (Zin p).2
 nt : SlB w (slV x.2.2.2) (netL p)
theorem WyAt.below {w w' : World} {x : WyV} {p : Pan} (h : WyAt w x p) (hb : Below w.heap.size w w') : WyAt w' x p := ⟨h.st.below hb, h.lo, h.hi, h.nt.below hb⟩
theorem Sl.size_ {α : Type} {enc : α → List Value} {sz : Nat} {w : World} {x : SlV} {l : List α} (h : Sl enc sz w (slV x) l) : x.2.1 = l.length := by
 obtain ⟨A, c, e, _⟩ := h
 simp only [slV, Value.slice.injEq] at e
 exact e.2.1
theorem WyAt.stl {w : World} {x : WyV} {p : Pan} (h : WyAt w x p) : x.1.2.1 = (Z6y p).length := h.st.size_
theorem WyAt.ntl {w : World} {x : WyV} {p : Pan} (h : WyAt w x p) : x.2.2.2.2.1 = (netL p).length := h.nt.size_
structure PcAt (w : World) (x : PcV) (p : Pan) : Prop where
 up : WyAt w x.1 p
 dn : WyAt w x.2 (trnP p)
theorem PcAt.below {w w' : World} {x : PcV} {p : Pan} (h : PcAt w x p) (hb : Below w.heap.size w w') : PcAt w' x p := ⟨h.up.below hb, h.dn.below hb⟩
def Zjl (w : World) : List PcV → List Pan → Prop
 | [], [] => True
 | x :: xs, p :: ps => PcAt w x p ∧ Zjl w xs ps
 | _, _ => False
theorem Zjl.len {w : World} : ∀ {xs : List PcV} {l : List Pan}, Zjl w xs l → xs.length = l.length
 | [], [], _ => rfl
 | _ :: _, _ :: _, h => by simp [h.2.len]
 | [], _ :: _, h => h.elim
 | _ :: _, [], h => h.elim
theorem Zjl.below {w w' : World} (hb : Below w.heap.size w w') : ∀ {xs : List PcV} {l : List Pan}, Zjl w xs l → Zjl w' xs l
 | [], [], _ => trivial
 | _ :: _, _ :: _, h => ⟨h.1.below hb, h.2.below hb⟩
 | [], _ :: _, h => h.elim
 | _ :: _, [], h => h.elim
theorem Zjl.get {w : World} : ∀ {xs : List PcV} {l : List Pan} {i : Nat} {x : PcV} {p : Pan}, Zjl w xs l → xs[i]? = some x → l[i]? = some p → PcAt w x p
 | x :: xs, p :: ps, 0, _, _, h, h1, h2 => by
  simp only [List.getElem?_cons_zero, Option.some.injEq] at h1 h2; subst h1 h2; exact h.1
 | _ :: xs, _ :: ps, i + 1, _, _, h, h1, h2 => Zjl.get (i := i) h.2 (by simpa using h1) (by simpa using h2)
 | [], [], _, _, _, _, h1, _ => by simp at h1
 | [], _ :: _, _, _, _, h, _, _ => h.elim
 | _ :: _, [], _, _, _, h, _, _ => h.elim
def SlW (w : World) (v : Value) (l : List Pan) : Prop := ∃ xs, Sl pcc 8 w v xs ∧ Zjl w xs l
theorem SlW.below {w w' : World} {v : Value} {l : List Pan} (h : SlW w v l) (hb : Below w.heap.size w w') : SlW w' v l := by
 obtain ⟨xs, h1, h2⟩ := h
 exact ⟨xs, h1.below hb, h2.below hb⟩
theorem SlW.shape {w : World} {v : Value} {l : List Pan} (h : SlW w v l) : ∃ A c, v = .slice A l.length c := by
 obtain ⟨xs, ⟨A, c, rfl, _⟩, h2⟩ := h
 exact ⟨A, c, by rw [h2.len]⟩
theorem Rd.pcc {w : World} {A : Option Addr} {xs : List PcV} (h : Rd pcc 8 w A xs) {k : Nat} {x : PcV} (hk : xs[k]? = some x) : ∃ b off, A = some ⟨b, off, none⟩ ∧ b < w.heap.size ∧
  w.cell? ⟨b, off + k * 8, none⟩ = some (slV x.1.1) ∧ w.cell? ⟨b, off + k * 8 + 1, none⟩ = some (.int .i64 x.1.2.1) ∧ w.cell? ⟨b, off + k * 8 + 2, none⟩ = some (.int .i64 x.1.2.2.1) ∧ w.cell? ⟨b, off + k * 8 + 3, none⟩ = some (slV x.1.2.2.2) ∧
  w.cell? ⟨b, off + k * 8 + 4, none⟩ = some (slV x.2.1) ∧ w.cell? ⟨b, off + k * 8 + 5, none⟩ = some (.int .i64 x.2.2.1) ∧ w.cell? ⟨b, off + k * 8 + 6, none⟩ = some (.int .i64 x.2.2.2.1) ∧ w.cell? ⟨b, off + k * 8 + 7, none⟩ = some (slV x.2.2.2.2) := by
 obtain ⟨b, off, e, hlt, hc⟩ := h k x hk
 exact ⟨b, off, e, hlt, by simpa using hc 0 _ rfl, hc 1 _ rfl, hc 2 _ rfl, hc 3 _ rfl, hc 4 _ rfl, hc 5 _ rfl, hc 6 _ rfl, hc 7 _ rfl⟩
theorem SlW.get {w : World} {v : Value} {l : List Pan} (h : SlW w v l) {k : Nat} (hk : k < l.length) : ∃ (b off c : Nat) (x : PcV), v = .slice (some ⟨b, off, none⟩) l.length c ∧ b < w.heap.size ∧ PcAt w x l[k] ∧
  w.cell? ⟨b, off + k * 8, none⟩ = some (slV x.1.1) ∧ w.cell? ⟨b, off + k * 8 + 1, none⟩ = some (.int .i64 x.1.2.1) ∧ w.cell? ⟨b, off + k * 8 + 2, none⟩ = some (.int .i64 x.1.2.2.1) ∧ w.cell? ⟨b, off + k * 8 + 3, none⟩ = some (slV x.1.2.2.2) ∧
  w.cell? ⟨b, off + k * 8 + 4, none⟩ = some (slV x.2.1) ∧ w.cell? ⟨b, off + k * 8 + 5, none⟩ = some (.int .i64 x.2.2.1) ∧ w.cell? ⟨b, off + k * 8 + 6, none⟩ = some (.int .i64 x.2.2.2.1) ∧ w.cell? ⟨b, off + k * 8 + 7, none⟩ = some (slV x.2.2.2.2) := by
 obtain ⟨xs, ⟨A, c, rfl, _, _, hr⟩, h2⟩ := h
 have hk2 : k < xs.length := by rw [h2.len]; exact hk
 obtain ⟨b, off, rfl, hb, hc⟩ := hr.pcc (List.getElem?_eq_getElem hk2)
 exact ⟨b, off, c, xs[k], by rw [h2.len], hb, h2.get (List.getElem?_eq_getElem hk2) (List.getElem?_eq_getElem hk), hc⟩
structure WyO (base : Nat) (w : World) (x : WyV) (p : Pan) : Prop where
 st : Own trc 4 base 234 w (slV x.1) (Z6y p)
 lo : x.2.1 = (Zin p).1
 hi : x.2.2.1 = (Zin p).2
 nt : OwB base w (slV x.2.2.2) (netL p)
structure PcO (base : Nat) (w : World) (x : PcV) (p : Pan) : Prop where
 up : WyO base w x.1 p
 dn : WyO base w x.2 (trnP p)
section
variable {base : Nat} {w w' : World} {p : Pan}
theorem WyO.at_ {x : WyV} (h : WyO base w x p) : WyAt w x p := ⟨h.st.rd Z8k, h.lo, h.hi, h.nt.rd Z20⟩
theorem WyO.to {base' : Nat} {x : WyV} (f : ∀ v l, Own trc 4 base 234 w v l → Own trc 4 base' 234 w' v l) (g : ∀ v l, OwB base w v l → OwB base' w' v l) (h : WyO base w x p) : WyO base' w' x p := ⟨f _ _ h.st, h.lo, h.hi, g _ _ h.nt⟩
theorem PcO.at_ {x : PcV} (h : PcO base w x p) : PcAt w x p := ⟨h.up.at_, h.dn.at_⟩
theorem PcO.to {base' : Nat} {x : PcV} (f : ∀ v l, Own trc 4 base 234 w v l → Own trc 4 base' 234 w' v l) (g : ∀ v l, OwB base w v l → OwB base' w' v l) (h : PcO base w x p) : PcO base' w' x p := ⟨h.up.to f g, h.dn.to f g⟩
theorem WyO.below {x : WyV} (h : WyO base w x p) (hb : Below w.heap.size w w') : WyO base w' x p := h.to (fun _ _ h => h.below hb) (fun _ _ h => h.below hb)
theorem WyO.chg {x : WyV} {S : List Nat} (h : WyO base w x p) (hc : Chg S w w') (hS : ∀ k ∈ S, k < base) : WyO base w' x p := h.to (fun _ _ h => h.chg hc hS) (fun _ _ h => h.chg hc hS)
theorem WyO.lower {base' : Nat} {x : WyV} (h : WyO base w x p) (hb : base' ≤ base) : WyO base' w x p := h.to (fun _ _ h => h.base_mono hb) (fun _ _ h => h.base_mono hb)
theorem PcO.below {x : PcV} (h : PcO base w x p) (hb : Below w.heap.size w w') : PcO base w' x p := h.to (fun _ _ h => h.below hb) (fun _ _ h => h.below hb)
theorem PcO.lower {base' : Nat} {x : PcV} (h : PcO base w x p) (hb : base' ≤ base) : PcO base' w x p := h.to (fun _ _ h => h.base_mono hb) (fun _ _ h => h.base_mono hb)
end
def PcsO (base : Nat) (w : World) : List PcV → List Pan → Prop
 | [], [] => True
 | x :: xs, p :: ps => PcO base w x p ∧ PcsO base w xs ps
 | _, _ => False
theorem PcsO.at_ {base : Nat} {w : World} : ∀ {xs : List PcV} {l : List Pan}, PcsO base w xs l → Zjl w xs l
 | [], [], _ => trivial
 | _ :: _, _ :: _, h => ⟨h.1.at_, h.2.at_⟩
 | [], _ :: _, h => h.elim
 | _ :: _, [], h => h.elim
theorem PcsO.to {base : Nat} {w w' : World} (f : ∀ v l, Own trc 4 base 234 w v l → Own trc 4 base 234 w' v l) (g : ∀ v l, OwB base w v l → OwB base w' v l) : ∀ {xs : List PcV} {l : List Pan}, PcsO base w xs l → PcsO base w' xs l
 | [], [], _ => trivial
 | _ :: _, _ :: _, h => ⟨h.1.to f g, h.2.to f g⟩
 | [], _ :: _, h => h.elim
 | _ :: _, [], h => h.elim
theorem PcsO.below {base : Nat} {w w' : World} {xs : List PcV} {l : List Pan} (h : PcsO base w xs l) (hb : Below w.heap.size w w') : PcsO base w' xs l := h.to (fun _ _ h => h.below hb) (fun _ _ h => h.below hb)
theorem PcsO.snoc {base : Nat} {w : World} : ∀ {xs : List PcV} {l : List Pan} {x : PcV} {p : Pan}, PcsO base w xs l → PcO base w x p → PcsO base w (xs ++ [x]) (l ++ [p])
 | [], [], _, _, _, h => ⟨h, trivial⟩
 | _ :: _, _ :: _, _, _, h, hx => ⟨h.1, h.2.snoc hx⟩
 | [], _ :: _, _, _, h, _ => h.elim
 | _ :: _, [], _, _, h, _ => h.elim
theorem PcsO.len {base : Nat} {w : World} {xs : List PcV} {l : List Pan} (h : PcsO base w xs l) : xs.length = l.length := h.at_.len
theorem PcsO.grow {base b2 : Nat} {w w' : World} {v : Value} {ys : List PcV} {xs : List PcV} {l : List Pan} (h : PcsO base w xs l) (ho : Own pcc 8 b2 123 w v ys) (hg : w.grownBy w' v.ownBlock) : PcsO base w' xs l :=
 h.to (fun u r hu => hu.kept hg (hu.ne_own ho (by decide))) (fun u r hu => hu.kept hg (hu.ne_own ho (by decide)))
theorem PcO.grow {base b2 : Nat} {w w' : World} {v : Value} {ys : List PcV} {x : PcV} {p : Pan} (h : PcO base w x p) (ho : Own pcc 8 b2 123 w v ys) (hg : w.grownBy w' v.ownBlock) : PcO base w' x p :=
 h.to (fun u r hu => hu.kept hg (hu.ne_own ho (by decide))) (fun u r hu => hu.kept hg (hu.ne_own ho (by decide)))
structure Zjm (p : Pan) : Prop where
 nm : p.1.length ≤ 1000000
 er : panE p = 0
 nt : Zbm p = 0
 te : panE (trnP p) = 0
 tn : Zbm (trnP p) = 0
theorem Zjn {p : Pan} (hn : p.1.length ≤ 1000000) (h1 : panE p = 0) (h2 : Zbm p = 0) (h3 : panE (trnP p) = 0) : Zjm p := by
 refine ⟨hn, h1, h2, h3, ?_⟩
 unfold Zbm at h2 ⊢
 rw [if_pos h1] at h2
 rw [if_pos h3, Zid h1 (Zaw h3).wid.2]
 exact h2
theorem Zjo {a : Int} {l : List Int} (h : Z17 (a :: l) = 0) : a = 0 ∧ Z17 l = 0 := by
 rw [Z17] at h
 split at h
 ·rename_i h1
  first | exact ⟨h1, h⟩ | exact absurd h h1
 ·rename_i h1
  first | exact absurd h h1 | exact ⟨by simpa using h1, h⟩
def PieL (l : List Pan) : Prop := ∀ p ∈ l, Zjm p
theorem Zjp {l : List Pan} (hn : ∀ p ∈ l, p.1.length ≤ 1000000) (h : pieE l = 0) : PieL l ∧ l.length ≤ 16 := by
 unfold pieE at h
 split at h
 ·omega
 ·refine ⟨?_, by omega⟩
  have key : ∀ (r done : List Pan), (∀ p ∈ r, p.1.length ≤ 1000000) → pieG done r = 0 → PieL r := by
   intro r; induction r with
   | nil => intro _ _ _ p hp; cases hp
   | cons q t ih =>
    intro done hr hg p hp; rw [pieG] at hg; split at hg
    ·rename_i h0
     unfold Ziu at h0; obtain ⟨e1, e⟩ := Zjo h0
     obtain ⟨e2, e⟩ := Zjo e
     obtain ⟨e3, e⟩ := Zjo e
     obtain ⟨e4, _⟩ := Zjo e
     rcases List.mem_cons.1 hp with rfl | hp
     ·exact Zjn (hr _ (List.mem_cons_self ..)) e1 e4 e3
     ·exact ih _ (fun p hp => hr p (List.mem_cons_of_mem _ hp)) hg p hp
    ·rename_i h0
     exact absurd hg h0
  exact key l [] hn h
end Go.Proofs.YtpcgeihemkhkjaaGreatDoor

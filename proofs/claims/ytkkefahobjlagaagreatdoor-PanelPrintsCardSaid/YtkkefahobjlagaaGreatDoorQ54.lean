/- The reference's Split and full, walked. Conditions: a short string. -/
import Derived.Test.YtkkefahobjlagaaGreatDoorQ52
import Derived.Test.YtkkefahobjlagaaGreatDoorQ15
import Derived.Test.YtkkefahobjlagaaGreatDoorQ29
import Derived.Laws.RangeAny
import Derived.Laws.RangeString
import Derived.Test.YtkkefahobjlagaaGreatDoorQ40
import Derived.Test.YtkkefahobjlagaaGreatDoorQ35
import Derived.Test.YtkkefahobjlagaaGreatDoorQ39
import Derived.Test.YtkkefahobjlagaaGreatDoorQ27
import Derived.Test.YtkkefahobjlagaaGreatDoorQ36
import Derived.Test.YtkkefahobjlagaaGreatDoorQ34
import Derived.Test.YtkkefahobjlagaaGreatDoorQ33
import Derived.Test.YtkkefahobjlagaaGreatDoorQ28
import Derived.Test.YtkkefahobjlagaaGreatDoorQ23
namespace Go.Proofs.YtkkefahobjlagaaGreatDoor
open Go.RowKit Go.ChangeMaps
set_option maxHeartbeats 4000000
set_option maxRecDepth 100000
attribute [local go_sem] Oper.semAt_some
theorem splA_hit {c : UInt8} {s : Str} {f k : Nat} (hf : f ≤ k) (hk : k < s.length) (hc : s[k] = c) (hn : c ∉ (s.drop f).take (k - f)) : splA c (s.drop f) = (s.drop f).take (k - f) :: splA c (s.drop (k + 1)) := by
 have e : s.drop f = (s.drop f).take (k - f) ++ c :: s.drop (k + 1) := by
  have h1 : (s.drop f).drop (k - f) = c :: s.drop (k + 1) := by
   rw [List.drop_drop, show f + (k - f) = k by omega, List.drop_eq_getElem_cons hk, hc]
  rw [← h1, List.take_append_drop]
 have h2 := splA_app (c := c) (s.drop (k + 1)) hn
 rw [← e] at h2
 exact h2
theorem splA_miss {c : UInt8} {s : Str} {f k : Nat} (hf : f ≤ k) (hk : k < s.length) (hc : s[k] ≠ c) (hn : c ∉ (s.drop f).take (k - f)) : c ∉ (s.drop f).take (k + 1 - f) := by
 have e : (s.drop f).take (k + 1 - f) = (s.drop f).take (k - f) ++ [s[k]] := by
  have hl : k - f < (s.drop f).length := by rw [List.length_drop]; omega
  rw [show k + 1 - f = (k - f) + 1 by omega, List.take_succ_eq_append_getElem hl]
  congr 2
  rw [List.getElem_drop]
  congr 1
  omega
 rw [e, List.mem_append, List.mem_singleton]
 rintro (h | h)
 ·exact hn h
 ·exact hc h.symm
theorem splA_end {c : UInt8} {s : Str} {f : Nat} (hn : c ∉ (s.drop f).take (s.length - f)) : splA c (s.drop f) = [s.drop f] := by
 refine splA_none ?_
 rw [List.take_of_length_le (by rw [List.length_drop]; omega)] at hn
 exact hn
theorem ba_cut (s : Str) (f k : Nat) : ({ data := s.toArray } : ByteArray).extract f k = { data := ((s.drop f).take (k - f)).toArray } := by
 apply ByteArray.ext
 simp
theorem str_elem : Elem Tryz.prog 178 9 1 16 := ⟨by kernel_rfl, by kernel_rfl, by decide⟩
theorem strc_len (x : Str) : (strc x).length = 1 := rfl
theorem strc_one (b : Str) : ∀ u ∈ strc b, u.oneCell' = true := by intro u hu; simp [strc] at hu; subst hu; rfl
theorem rsplit_any (s : Str) (c : UInt8) (n : Nat) (hc : c.toNat = n) (hs : s.length ≤ 100000) (w : World) :
  Calls Tryz.prog 106 #[sV s, .int .u8 n] w (RG strc 1 9 w (splA c s)) := by
 unfold sV
 have HC := Lib.hid hc
 clear hc
 go_enter Tryz.func106, Tryz.ntmps106
 go_wp2
 go_loopw [5, 6, 7] (fun s5 s6 s7 wr => ∃ (acc : List Str) (f k : Nat), f ≤ k ∧ k ≤ s.length ∧ acc.length ≤ k ∧ s6 = .int .i64 f ∧ s7 = .int .i64 k ∧ Own strc 1 w.heap.size 9 wr s5 acc ∧ Hid (splA c s = acc ++ splA c (s.drop f)) ∧ Hid (c ∉ (s.drop f).take (k - f)) ∧ Below w.heap.size w wr) (fun _ _ i _ => s.length - (intOf i).toNat)
 case atStart => exact ⟨[], 0, 0, Nat.le_refl _, Nat.zero_le _, by simp, rfl, rfl, Own.nil_, rfl, by unfold Hid; simp, bl_refl⟩
 case round =>
  obtain ⟨acc, f, k, hf, hk, hac, rfl, rfl, hO, H, HN, hbw⟩ := hrel
  obtain ⟨wo, rfl⟩ : ∃ x, x = wr := ⟨_, rfl⟩
  have hE1 := Lib.hid (ba_cut s f k)
  by_cases hlt : k < s.length
  ·obtain ⟨m, hm⟩ : ∃ m : Nat, s[k].toNat = m := ⟨_, rfl⟩
   have hm2 : (({ data := s.toArray } : ByteArray)[k]'hlt).toNat = m := hm
   by_cases he : m = n
   ·have hsc : s[k] = c := UInt8.toNat_inj.1 (by rw [hm, he, HC.out])
    have HH := Lib.hid (splA_hit hf hlt hsc HN.out)
    have t1 : ((m : Int) == (n : Int)) = true := by rw [he]; exact beq_self_eq_true _
    have t2 : (m == n) = true := by rw [he]; exact beq_self_eq_true _
    have HT : Hid (splA c s = (acc ++ [(s.drop f).take (k - f)]) ++ splA c (s.drop (k + 1))) := by unfold Hid; rw [H.out, HH.out]; simp
    clear he hsc hm H HH HN
    have hOa := hO.alloc (.cells #[.string (({ data := s.toArray } : ByteArray).extract f k)] 9)
    have hua : Sl strc 1 (wo.alloc (.cells #[.string (({ data := s.toArray } : ByteArray).extract f k)] 9)) (.slice (some ⟨wo.heap.size, 0, none⟩) 1 1) [(s.drop f).take (k - f)] := Sl.oneG wo _ _ _ (by rw [hE1.out]; rfl)
    have hba : Below w.heap.size w (wo.alloc (.cells #[.string (({ data := s.toArray } : ByteArray).extract f k)] 9)) := bl_alloc hbw _
    have hza := hba.size
    go_wp2_with (at_builtin; refine wpList_app rfl str_elem strc_len strc_one _ _ rfl w.heap.size _ _ acc [(s.drop f).take (k - f)] rfl rfl hOa hua (by simp [maxLen]; omega) (by simp; omega) hza ?_; intro v9 w9 hO9 hg9)
    have hb9 : Below w.heap.size w w9 := bl_grown hg9 hba (fun j e => (hOa.lt j e).1)
    have HN0 : Hid (c ∉ (s.drop (k + 1)).take (k + 1 - (k + 1))) := by unfold Hid; simp
    go_wp2
    go_roundw
    case rel => exact ⟨acc ++ [(s.drop f).take (k - f)], k + 1, k + 1, Nat.le_refl _, by omega, by simp; omega, by go_num, by go_num, hO9, HT, HN0, hb9⟩
    case measure => simp [intOf]; omega
   ·have hsc : s[k] ≠ c := fun q => he (by rw [← hm, q, HC.out])
    have HM := Lib.hid (splA_miss hf hlt hsc HN.out)
    have t1 : ((m : Int) == (n : Int)) = false := beq_false_of_ne (by omega)
    have t2 : (m == n) = false := beq_false_of_ne he
    clear he hsc hm HN
    go_wp2
    go_roundw
    case rel => exact ⟨acc, f, k + 1, by omega, by omega, by omega, rfl, by go_num, hO, H, HM, hbw⟩
    case measure => simp [intOf]; omega
  ·obtain rfl : k = s.length := by omega
   have HE : Hid (splA c s = acc ++ [s.drop f]) := by unfold Hid; rw [H.out, splA_end HN.out]
   clear H HN
   have hE2 : ({ data := s.toArray } : ByteArray).extract f s.length = { data := (s.drop f).toArray } := by
    rw [ba_cut, List.take_of_length_le (by rw [List.length_drop]; omega)]
   have HE2 := Lib.hid hE2
   clear hE2
   have hOa := hO.alloc (.cells #[.string (({ data := s.toArray } : ByteArray).extract f s.length)] 9)
   have hua : Sl strc 1 (wo.alloc (.cells #[.string (({ data := s.toArray } : ByteArray).extract f s.length)] 9)) (.slice (some ⟨wo.heap.size, 0, none⟩) 1 1) [s.drop f] := Sl.oneG wo _ _ _ (by rw [HE2.out]; rfl)
   have hba : Below w.heap.size w (wo.alloc (.cells #[.string (({ data := s.toArray } : ByteArray).extract f s.length)] 9)) := bl_alloc hbw _
   have hza := hba.size
   go_wp2_with (at_builtin; refine wpList_app rfl str_elem strc_len strc_one _ _ rfl w.heap.size _ _ acc [s.drop f] rfl rfl hOa hua (by simp [maxLen]; omega) (by simp; omega) hza ?_; intro v9 w9 hO9 hg9)
   have hb9 : Below w.heap.size w w9 := bl_grown hg9 hba (fun j e => (hOa.lt j e).1)
   go_wp2
   go_ret
   exact ⟨_, rfl, by rw [HE.out]; exact hO9, hb9⟩
theorem fullB_at {W : List Str} {k : Nat} (hk : k < W.length) : fullB (W.drop k) = (decide (W[k] ≠ []) && fullB (W.drop (k + 1))) := by
 rw [List.drop_eq_getElem_cons hk]
 rfl
theorem rfull_any (W : List Str) (A : Option Addr) (c : Nat) (w : World) (hlen : W.length ≤ 200000) (h : Rd strc 1 w A W) :
  Calls Tryz.prog 107 #[.slice A W.length c] w (RV w (.bool (fullB W))) := by
 go_enter Tryz.func107, Tryz.ntmps107
 go_wp2
 go_loopw [3] (fun s3 wr => ∃ k : Nat, k ≤ W.length ∧ s3 = .int .i64 k ∧ Hid (fullB W = fullB (W.drop k)) ∧ Below w.heap.size w wr) (fun i _ => W.length - (intOf i).toNat)
 case atStart => exact ⟨0, Nat.zero_le _, rfl, rfl, bl_refl⟩
 case round =>
  obtain ⟨k, hk, rfl, H, hbw⟩ := hrel
  by_cases hlt : k < W.length
  ·have HD := Lib.hid (fullB_at hlt)
   obtain ⟨b, off, rfl, hb, e0⟩ := (h.below hbw).str (List.getElem?_eq_getElem hlt)
   obtain ⟨s, hs⟩ : ∃ s, W[k] = s := ⟨_, rfl⟩
   rw [hs] at e0 HD
   unfold sV at e0
   clear hs
   by_cases he : s = []
   ·have HF : Hid (fullB W = false) := by unfold Hid; rw [H.out, HD.out, he]; rfl
    subst he
    go_wp2
    go_ret
    exact ⟨by rw [HF.out]; rfl, hbw⟩
   ·obtain ⟨B, hB⟩ : ∃ B : ByteArray, ({ data := s.toArray } : ByteArray) = B := ⟨_, rfl⟩
    have hBl : B.toList = s := by rw [← hB]; simp [ByteArray.toList_eq]
    have g1 : (B.toList == []) = false := by rw [hBl]; cases s <;> simp_all
    have g2 : B.toList.isEmpty = false := by rw [hBl]; cases s <;> simp_all
    have g3 : (B.toList = []) = False := by rw [hBl]; simpa using he
    have HT : Hid (fullB W = fullB (W.drop (k + 1))) := by unfold Hid; rw [H.out, HD.out, decide_eq_true he]; rfl
    rw [hB] at e0
    clear he hBl hB H HD
    go_wp2
    go_roundw
    case rel => exact ⟨k + 1, by omega, by go_num, HT, hbw⟩
    case measure => simp [intOf]; omega
  ·have HE : Hid (fullB W = true) := by unfold Hid; rw [H.out, List.drop_of_length_le (by omega)]; rfl
   go_wp2
   go_ret
   exact ⟨by rw [HE.out]; rfl, hbw⟩
def shortPs (l : List Pan) (k n : Int) : Bool := !((decide (k < (l.length : Int)) && decide (l.length ≤ 16)) || decide (18 < l.length)) && l.all fun p => shortP p n
theorem shortPs_in {l : List Pan} {k n : Int} (h : shortPs l k n = true) : l.length ≤ 18 ∧ ((l.length : Int) ≤ k ∨ 16 < l.length) ∧ ∀ p ∈ l, shortP p n = true := by
 unfold shortPs at h
 simp only [Bool.and_eq_true, Bool.not_eq_true', Bool.or_eq_false_iff, Bool.and_eq_false_iff, decide_eq_false_iff_not, List.all_eq_true] at h
 obtain ⟨⟨h1, h2⟩, h3⟩ := h
 exact ⟨by omega, by omega, h3⟩
theorem shorts_all_at {l : List Pan} {n : Int} {k : Nat} (hk : k < l.length) : ((l.drop k).all fun p => shortP p n) = (shortP l[k] n && (l.drop (k + 1)).all fun p => shortP p n) := by
 rw [List.drop_eq_getElem_cons hk, List.all_cons]
theorem rshorts_any {v : Value} (l : List Pan) (k n : Int) (w : World) (h : SlP w v l) (hnm : ∀ p ∈ l, p.1.length ≤ maxLen) :
    Calls Tryz.prog 34 #[v, .int .i64 k, .int .i64 n] w (RV w (.bool (shortPs l k n))) := by
  obtain ⟨xs, ⟨A, c, rfl, hlc, hcm, hr⟩, hx⟩ := h
  have HLN := Lib.hid hx.len
  have hl1 : xs.length ≤ l.length := Nat.le_of_eq HLN.out
  have hl2 : l.length ≤ xs.length := Nat.le_of_eq HLN.out.symm
  have hHN := Lib.hid hnm
  have HS : Hid (shortPs l k n = (!((decide (k < (l.length : Int)) && decide (l.length ≤ 16)) || decide (18 < l.length)) && l.all fun p => shortP p n)) := rfl
  have hxm : xs.length ≤ maxLen := Nat.le_trans hlc hcm
  unfold maxLen at hxm
  clear hnm
  go_enter Tryz.func34, Tryz.ntmps34
  go_upto_region 1 with fail
  go_cut [21] from 8 to 21 (fun s21 wx => s21 = .bool ((decide (k < (l.length : Int)) && decide (l.length ≤ 16)) || decide (18 < l.length)) ∧ Below w.heap.size w wx)
  case first =>
    by_cases h1 : k < (xs.length : Int)
    · by_cases h2 : xs.length ≤ 16
      · have HQ : Hid (((decide (k < (l.length : Int)) && decide (l.length ≤ 16)) || decide (18 < l.length)) = true) := by
          unfold Hid; rw [decide_eq_true (by omega), decide_eq_true (by omega)]; rfl
        have t1 : (k < (xs.length : Int)) = True := eq_true h1
        have t2 : ((xs.length : Int) ≤ 16) = True := eq_true (by omega)
        clear h1 h2
        go_wp2_with fail
        all_goals
          go_meet
          case rel => exact ⟨by rw [HQ.out], by (repeat first|exact J0|assumption|(apply J1;assumption)|apply J2|apply J3|apply J4)⟩
      · by_cases h3 : 18 < xs.length
        · have HQ : Hid (((decide (k < (l.length : Int)) && decide (l.length ≤ 16)) || decide (18 < l.length)) = true) := by
            unfold Hid; rw [decide_eq_true (show 18 < l.length by omega), Bool.or_true]
          have t1 : (k < (xs.length : Int)) = True := eq_true h1
          have t2 : ((xs.length : Int) ≤ 16) = False := eq_false (by omega)
          have t3 : (18 < (xs.length : Int)) = True := eq_true (by omega)
          clear h1 h2 h3
          go_wp2_with fail
          all_goals
            go_meet
            case rel => exact ⟨by rw [HQ.out], by (repeat first|exact J0|assumption|(apply J1;assumption)|apply J2|apply J3|apply J4)⟩
        · have HQ : Hid (((decide (k < (l.length : Int)) && decide (l.length ≤ 16)) || decide (18 < l.length)) = false) := by
            unfold Hid; rw [decide_eq_false (show ¬ l.length ≤ 16 by omega), decide_eq_false (show ¬ 18 < l.length by omega), Bool.and_false]; rfl
          have t1 : (k < (xs.length : Int)) = True := eq_true h1
          have t2 : ((xs.length : Int) ≤ 16) = False := eq_false (by omega)
          have t3 : (18 < (xs.length : Int)) = False := eq_false (by omega)
          clear h1 h2 h3
          go_wp2_with fail
          all_goals
            go_meet
            case rel => exact ⟨by rw [HQ.out], by (repeat first|exact J0|assumption|(apply J1;assumption)|apply J2|apply J3|apply J4)⟩
    · by_cases h3 : 18 < xs.length
      · have HQ : Hid (((decide (k < (l.length : Int)) && decide (l.length ≤ 16)) || decide (18 < l.length)) = true) := by
          unfold Hid; rw [decide_eq_true (show 18 < l.length by omega), Bool.or_true]
        have t1 : (k < (xs.length : Int)) = False := eq_false h1
        have t3 : (18 < (xs.length : Int)) = True := eq_true (by omega)
        clear h1 h3
        go_wp2_with fail
        all_goals
          go_meet
          case rel => exact ⟨by rw [HQ.out], by (repeat first|exact J0|assumption|(apply J1;assumption)|apply J2|apply J3|apply J4)⟩
      · have HQ : Hid (((decide (k < (l.length : Int)) && decide (l.length ≤ 16)) || decide (18 < l.length)) = false) := by
          unfold Hid; rw [decide_eq_false (show ¬ k < (l.length : Int) by omega), decide_eq_false (show ¬ 18 < l.length by omega), Bool.false_and]; rfl
        have t1 : (k < (xs.length : Int)) = False := eq_false h1
        have t3 : (18 < (xs.length : Int)) = False := eq_false (by omega)
        clear h1 h3
        go_wp2_with fail
        all_goals
          go_meet
          case rel => exact ⟨by rw [HQ.out], by (repeat first|exact J0|assumption|(apply J1;assumption)|apply J2|apply J3|apply J4)⟩
  case rest =>
    obtain ⟨rfl, hbc⟩ := hcut
    obtain ⟨q, hq⟩ : ∃ q, ((decide (k < (l.length : Int)) && decide (l.length ≤ 16)) || decide (18 < l.length)) = q := ⟨_, rfl⟩
    rw [hq] at HS
    rw [hq]
    clear hq
    cases q
    · have HS2 : Hid (shortPs l k n = (l.drop 0).all fun p => shortP p n) := HS
      clear HS
      go_wp2
      go_loopw [7] (fun s7 wr => ∃ j : Nat, j ≤ xs.length ∧ s7 = .int .i64 j ∧ Hid (shortPs l k n = (l.drop j).all fun p => shortP p n) ∧ Below w.heap.size w wr) (fun i _ => xs.length - (intOf i).toNat)
      case atStart => exact ⟨0, Nat.zero_le _, rfl, HS2, hbc⟩
      case round =>
        clear HS2 hbc
        obtain ⟨j, hj, rfl, H, hbw⟩ := hrel
        obtain ⟨wo, rfl⟩ : ∃ x, x = wr := ⟨_, rfl⟩
        by_cases hlt : j < xs.length
        · have hkl : j < l.length := by omega
          have hp := hx.get (List.getElem?_eq_getElem hlt) (List.getElem?_eq_getElem hkl)
          have hnk := hHN.out _ (List.getElem_mem hkl)
          have HF := Lib.hid (shorts_all_at (n := n) hkl)
          obtain ⟨b, off, rfl, hb, e0, e1, e2, e3⟩ := (hr.below hbw).pan (List.getElem?_eq_getElem hlt)
          obtain ⟨p, hpe⟩ : ∃ p, l[j] = p := ⟨_, rfl⟩
          rw [hpe] at hp hnk HF
          obtain ⟨x, hxe⟩ : ∃ x, xs[j] = x := ⟨_, rfl⟩
          rw [hxe] at hp e0 e1 e2 e3
          have hsh := fun W (hb : Below w.heap.size w W) => shortP_any p n W hnk (hp.left.below hb) (hp.right.below hb)
          rw [← hp.nm, ← hp.wd] at hsh
          obtain ⟨q, hq⟩ : ∃ q, shortP p n = q := ⟨_, rfl⟩
          rw [hq] at hsh HF
          obtain ⟨⟨n0, n1, ⟨a0, a1, a2⟩, ⟨b0, b1, b2⟩⟩, hxx⟩ : ∃ z, x = z := ⟨_, rfl⟩
          rw [hxx] at e0 e1 e2 e3 hsh
          simp only [sV, slV] at e0 e1 e2 e3 hsh
          clear hp hnk hxx hq hpe hxe
          cases q
          · have HE : Hid (shortPs l k n = false) := by unfold Hid; rw [H.out, HF.out]; rfl
            go_wp2_with fail
            refine (hsh _ hbw).mono ?_
            rintro e w2 ⟨rfl, hb2⟩
            go_wp2
            go_ret
            exact ⟨by rw [HE.out]; rfl, bl_then hb2 hbw⟩
          · have HE : Hid (shortPs l k n = (l.drop (j + 1)).all fun p => shortP p n) := by unfold Hid; rw [H.out, HF.out]; rfl
            go_wp2_with fail
            refine (hsh _ hbw).mono ?_
            rintro e w2 ⟨rfl, hb2⟩
            go_wp2
            go_roundw
            case rel => exact ⟨j + 1, by omega, by go_num, HE, bl_then hb2 hbw⟩
            case measure => simp [intOf]; omega
        · have HE : Hid (shortPs l k n = true) := by unfold Hid; rw [H.out, List.drop_of_length_le (by omega)]; rfl
          go_wp2
          go_ret
          exact ⟨by rw [HE.out]; rfl, hbw⟩
    · have HE : Hid (shortPs l k n = false) := HS
      go_wp2
      go_ret
      exact ⟨by rw [HE.out]; rfl, hbc⟩
theorem eqP_self (p : Pan) : eqP p p = true := by unfold eqP; simp
theorem rsames_any {v u : Value} (l : List Pan) (w : World) (h : SlP w v l) (h' : SlP w u l) : Calls Tryz.prog 41 #[v, u] w (RV w (.bool true)) := by
 obtain ⟨xs, ⟨A, c, rfl, hlc, hcm, hr⟩, hx⟩ := h
 obtain ⟨ys, ⟨A', c', rfl, hlc', hcm', hr'⟩, hy⟩ := h'
 have hl1 : xs.length = l.length := hx.len
 have hl2 : ys.length = l.length := hy.len
 have hxm : xs.length ≤ maxLen := Nat.le_trans hlc hcm
 unfold maxLen at hxm
 rw [hl1] at hxm
 rw [hl1, hl2]
 have HL1 := Lib.hid hl1
 have HL2 := Lib.hid hl2
 have t0 : ((l.length : Int) != (l.length : Int)) = false := by simp
 clear hl1 hl2 hlc hcm hlc' hcm'
 go_enter Tryz.func41, Tryz.ntmps41
 go_wp2
 go_loopw [5] (fun s5 wr => ∃ j : Nat, j ≤ l.length ∧ s5 = .int .i64 j ∧ Below w.heap.size w wr) (fun i _ => l.length - (intOf i).toNat)
 case atStart => exact ⟨0, Nat.zero_le _, rfl, by (repeat first|exact J0|assumption|(apply J1;assumption)|apply J2|apply J3|apply J4)⟩
 case round =>
  obtain ⟨j, hj, rfl, hbw⟩ := hrel
  obtain ⟨wo, rfl⟩ : ∃ x, x = wr := ⟨_, rfl⟩
  by_cases hlt : j < l.length
  ·have hj1 : j < xs.length := by rw [HL1.out]; exact hlt
   have hj2 : j < ys.length := by rw [HL2.out]; exact hlt
   have hp := hx.get (List.getElem?_eq_getElem hj1) (List.getElem?_eq_getElem hlt)
   have hq := hy.get (List.getElem?_eq_getElem hj2) (List.getElem?_eq_getElem hlt)
   obtain ⟨b, off, rfl, hb, e0, e1, e2, e3⟩ := (hr.below hbw).pan (List.getElem?_eq_getElem hj1)
   obtain ⟨b', off', rfl, hb', d0, d1, d2, d3⟩ := (hr'.below hbw).pan (List.getElem?_eq_getElem hj2)
   obtain ⟨p, hpe⟩ : ∃ p, l[j] = p := ⟨_, rfl⟩
   rw [hpe] at hp hq
   obtain ⟨x, hxe⟩ : ∃ x, xs[j] = x := ⟨_, rfl⟩
   rw [hxe] at hp e0 e1 e2 e3
   obtain ⟨y, hye⟩ : ∃ y, ys[j] = y := ⟨_, rfl⟩
   rw [hye] at hq d0 d1 d2 d3
   have hsm := fun W (hb : Below w.heap.size w W) => samePanel_any p p W (hp.left.below hb) (hp.right.below hb) (hq.left.below hb) (hq.right.below hb)
   rw [show eqP p p = true from eqP_self p] at hsm
   rw [hp.nm] at e0
   rw [hp.wd] at e1
   rw [hq.nm] at d0
   rw [hq.wd] at d1
   obtain ⟨x0, x1, ⟨a0, a1, a2⟩, ⟨b0, b1, b2⟩⟩ := x
   obtain ⟨y0, y1, ⟨f0, f1, f2⟩, ⟨g0, g1, g2⟩⟩ := y
   simp only [sV, slV] at e0 e1 e2 e3 d0 d1 d2 d3 hsm
   clear hp hq hpe hxe hye
   go_upto_region 6 with fail
   refine wp_region_ords [0, 1, 2, 3, 4, 5, 6, 7] [] [8, 9] (by kernel_rfl) (by kernel_rfl) (fun d _ _ _ _ h => by cases d <;> exact h) ?_
   simp only [List.map_cons, List.map_nil, List.getD_cons_zero, List.getD_cons_succ]
   repeat (go_big_quiet_step (fail))
   refine wpQuiet_nil ?_
   refine wpMid_nil ?_
   go_wp2_with fail
   refine (hsm _ (bl_drew hbw)).mono ?_
   rintro e w2 ⟨rfl, hb2⟩
   go_wp2
   go_roundw
   case rel => exact ⟨j + 1, by omega, by go_num, bl_then hb2 (bl_drew hbw)⟩
   case measure => simp [intOf]; omega
  ·obtain rfl : j = l.length := by omega
   go_wp2
   go_ret
   exact ⟨rfl, hbw⟩
def atJ (l : List Pan) (j : Nat) (p : Pan) : Int := firstI [panE p, whenI (agnB (l.take j) p.1) 9]
theorem agnB_mono {l : List Pan} {nm : List UInt8} {i j : Nat} (h : i ≤ j) (ha : agnB (l.take i) nm = true) : agnB (l.take j) nm = true := by
 unfold agnB at ha ⊢
 rw [List.any_eq_true] at ha ⊢
 obtain ⟨x, hx, e⟩ := ha
 refine ⟨x, ?_, e⟩
 have : l.take i = (l.take j).take i := by rw [List.take_take]; congr 1; omega
 rw [this] at hx
 exact List.mem_of_mem_take hx
theorem atJ_stop {l : List Pan} {i j : Nat} {p : Pan} (h : i ≤ j) (h0 : atJ l i p ≠ 0) : atJ l i p = atJ l j p := by
 unfold atJ at h0 ⊢
 by_cases hp : panE p = 0
 ·rw [hp] at h0 ⊢
  cases ha : agnB (l.take i) p.1
  ·rw [ha] at h0; exact absurd rfl h0
  ·rw [agnB_mono h ha]
 ·simp only [firstI, if_neg hp]
theorem atJ_on {l : List Pan} {j : Nat} {p : Pan} (hj : j < l.length) (h0 : atJ l j p = 0) : atJ l (j + 1) p = if (l[j].1 == p.1) = true then 9 else 0 := by
 unfold atJ at h0 ⊢
 obtain ⟨h1, h2⟩ := firstI_zero h0
 have ha : agnB (l.take j) p.1 = false := by
  cases ha : agnB (l.take j) p.1
  ·rfl
  ·rw [ha] at h2; cases h2
 rw [h1, agn_at hj ha]
 cases l[j].1 == p.1 <;> rfl
theorem atJ_nil (l : List Pan) (p : Pan) : atJ l 0 p = panE p := by
 unfold atJ
 simp [agnB, whenI, firstI]
 exact fun h => h.symm
theorem rcheckPanels_any {v : Value} (l : List Pan) (w : World) (h : SlP w v l) (hnm : ∀ p ∈ l, p.1.length ≤ 1000000) (hwd : ∀ p ∈ l, (∀ e ∈ p.2.2.1, e.1.length ≤ 1000000) ∧ ∀ e ∈ p.2.2.2, e.1.length ≤ 1000000) :
    Calls Tryz.prog 38 #[v] w (RV w (.int .i64 (allE l))) := by
  obtain ⟨xs, ⟨A, c, rfl, hlc, hcm, hr⟩, hx⟩ := h
  have HLN := Lib.hid hx.len
  have hl1 : xs.length ≤ l.length := Nat.le_of_eq HLN.out
  have hl2 : l.length ≤ xs.length := Nat.le_of_eq HLN.out.symm
  have hHN := Lib.hid hnm
  have hHW := Lib.hid hwd
  clear hnm hwd
  by_cases h16 : 16 < l.length
  · have HE : Hid (allE l = 5) := by unfold Hid allE; rw [if_pos h16]
    have t1 : (16 < xs.length) = True := eq_true (by omega)
    have t2 : (16 < (xs.length : Int)) = True := eq_true (by omega)
    clear h16
    go_enter Tryz.func38, Tryz.ntmps38
    go_wp2
    go_ret
    exact ⟨by rw [HE.out]; rfl, by (repeat first|exact J0|assumption|(apply J1;assumption)|apply J2|apply J3|apply J4)⟩
  · have HE : Hid (allE l = fromE l 0 l) := by unfold Hid allE; rw [if_neg h16]
    have t1 : (16 < xs.length) = False := eq_false (by omega)
    have t2 : (16 < (xs.length : Int)) = False := eq_false (by omega)
    have hl16 : xs.length ≤ 16 := by omega
    clear h16
    go_enter Tryz.func38, Tryz.ntmps38
    go_wp2
    clear t1 t2
    go_loopw [3] (fun s wr => ∃ k : Nat, k ≤ xs.length ∧ s = .int .i64 k ∧ Hid (fromE l 0 l = fromE l k (l.drop k)) ∧ Below w.heap.size w wr) (fun s _ => xs.length - (intOf s).toNat)
    case atStart => exact ⟨0, Nat.zero_le _, rfl, rfl, by (repeat first|exact J0|assumption|(apply J1;assumption)|apply J2|apply J3|apply J4)⟩
    case round =>
      obtain ⟨k, hk, rfl, HK, hbw⟩ := hrel
      obtain ⟨wo, rfl⟩ : ∃ x, x = wr := ⟨_, rfl⟩
      by_cases hlt : k < xs.length
      · have hkl : k < l.length := by omega
        have hp := hx.get (List.getElem?_eq_getElem hlt) (List.getElem?_eq_getElem hkl)
        have hnk := hHN.out _ (List.getElem_mem hkl)
        have hwk := hHW.out _ (List.getElem_mem hkl)
        have HF := Lib.hid (fromE_at hkl)
        obtain ⟨b, off, rfl, hb, e0, e1, e2, e3⟩ := (hr.below hbw).pan (List.getElem?_eq_getElem hlt)
        obtain ⟨p, hpe⟩ : ∃ p, l[k] = p := ⟨_, rfl⟩
        rw [hpe] at hp hnk hwk HF
        obtain ⟨x, hxe⟩ : ∃ x, xs[k] = x := ⟨_, rfl⟩
        rw [hxe] at hp e0 e1 e2 e3
        have hcp := fun W (hb : Below w.heap.size w W) => rcheckPanel_any p W hnk (hp.left.below hb) (hp.right.below hb) hwk.1 hwk.2
        have HN : Hid (x.1 = p.1) := hp.nm
        rw [← hp.nm, ← hp.wd] at hcp
        have H0 := Lib.hid (atJ_nil l p)
        have HS := Lib.hid (fun j (hj : j ≤ k) => atJ_stop (l := l) (p := p) hj)
        have HO := Lib.hid (fun j (hj : j < l.length) => atJ_on (p := p) hj)
        have HA : Hid (atE l k p = atJ l k p) := rfl
        obtain ⟨E1, hE1⟩ : ∃ E, panE p = E := ⟨_, rfl⟩
        rw [hE1] at hcp H0
        obtain ⟨⟨n0, n1, ⟨a0, a1, a2⟩, ⟨b0, b1, b2⟩⟩, hxx⟩ : ∃ z, x = z := ⟨_, rfl⟩
        rw [hxx] at e0 e1 e2 e3 hcp HN
        simp only [sV, slV] at e0 e1 e2 e3 hcp HN
        clear hp hnk hwk hxx hE1 hpe hxe
        go_wp2_with fail
        refine (hcp _ hbw).mono ?_
        rintro e w2 ⟨rfl, hb2⟩
        have hbw2 : Below w.heap.size w w2 := bl_then hb2 hbw
        have h02 : Below wo.heap.size wo w2 := hb2
        have d0 := (h02.cell (p := ⟨b, off + k * 4, none⟩) hb).trans e0
        clear e0 e1 e2 e3
        go_wp2
        go_loopw [4, 5] (fun s4 s5 wr => ∃ j : Nat, j ≤ k ∧ s5 = .int .i64 j ∧ s4 = .int .i64 (atJ l j p) ∧ Below w2.heap.size w2 wr) (fun _ s _ => k - (intOf s).toNat)
        case atStart => exact ⟨0, Nat.zero_le _, rfl, congrArg (Value.int .i64) H0.out.symm, bl_refl⟩
        case round =>
          obtain ⟨j, hj, rfl, rfl, hbj⟩ := hrel
          obtain ⟨wi, rfl⟩ : ∃ x, x = wr := ⟨_, rfl⟩
          have hs := HS.out j hj
          have hbi : Below w.heap.size w wi := bl_then hbj hbw2
          by_cases hz : j < k ∧ atJ l j p = 0
          · obtain ⟨hjk, hz⟩ := hz
            have hjl : j < l.length := by omega
            have hjx : j < xs.length := by omega
            have HQ := Lib.hid (HO.out j hjl hz)
            have hpj := hx.get (List.getElem?_eq_getElem hjx) (List.getElem?_eq_getElem hjl)
            obtain ⟨bj, offj, hA, hbj2, f0, _, _, _⟩ := (hr.below hbi).pan (List.getElem?_eq_getElem hjx)
            obtain ⟨rfl, rfl⟩ : b = bj ∧ off = offj := by simpa using hA
            have g0 := (hbj.cell (p := ⟨b, off + k * 4, none⟩) (Nat.lt_of_lt_of_le hb h02.size)).trans d0
            rw [hpj.nm] at f0
            have hee := ba_eq l[j].1 n0
            rw [← HN.out] at HQ
            unfold sV at f0
            obtain ⟨Bj, hBj⟩ : ∃ B : ByteArray, ({ data := l[j].1.toArray } : ByteArray) = B := ⟨_, rfl⟩
            obtain ⟨Bk, hBk⟩ : ∃ B : ByteArray, ({ data := n0.toArray } : ByteArray) = B := ⟨_, rfl⟩
            rw [hBj] at f0 hee
            rw [hBk] at g0 hee
            rw [hz]
            obtain ⟨q, hq⟩ : ∃ q, (l[j].1 == n0) = q := ⟨_, rfl⟩
            rw [hq] at hee HQ
            clear hz hs hA hpj hBj hBk hq
            cases q
            · have HR : Hid (atJ l (j + 1) p = 0) := HQ
              clear HQ
              go_upto_region 10 with fail
              refine wp_region_ords [0, 1, 2, 3, 4, 5, 6, 7, 8, 9, 10] [] [] (by kernel_rfl) (by kernel_rfl) (fun d _ _ _ _ h => by cases d <;> exact h) ?_
              simp only [List.map_cons, List.map_nil, List.getD_cons_zero, List.getD_cons_succ]
              repeat (go_big_quiet_step (fail))
              refine wpQuiet_nil ?_
              refine wpMid_nil ?_
              go_wp2
              go_roundw
              case rel => exact ⟨j + 1, by omega, by go_num, by rw [HR.out], bl_then (by (repeat first|exact J0|assumption|(apply J1;assumption)|apply J2|apply J3|apply J4)) hbj⟩
              case measure => simp [intOf]; omega
            · have HR : Hid (atJ l (j + 1) p = 9) := HQ
              clear HQ
              go_upto_region 10 with fail
              refine wp_region_ords [0, 1, 2, 3, 4, 5, 6, 7, 8, 9, 10] [] [] (by kernel_rfl) (by kernel_rfl) (fun d _ _ _ _ h => by cases d <;> exact h) ?_
              simp only [List.map_cons, List.map_nil, List.getD_cons_zero, List.getD_cons_succ]
              repeat (go_big_quiet_step (fail))
              refine wpQuiet_nil ?_
              refine wpMid_nil ?_
              go_wp2
              go_roundw
              case rel => exact ⟨j + 1, by omega, by go_num, by rw [HR.out], bl_then (by (repeat first|exact J0|assumption|(apply J1;assumption)|apply J2|apply J3|apply J4)) hbj⟩
              case measure => simp [intOf]; omega
          · have hv : atJ l j p = atE l k p := by
              rw [HA.out]
              by_cases hz0 : atJ l j p = 0
              · have : j = k := by
                  refine Classical.byContradiction fun q => hz ⟨by omega, hz0⟩
                rw [this]
              · exact hs hz0
            have hg : j < k → atE l k p ≠ 0 := fun q e => hz ⟨q, by rw [hv]; exact e⟩
            rw [hv]
            obtain ⟨E, hE⟩ : ∃ E, atE l k p = E := ⟨_, rfl⟩
            rw [hE] at HF hg
            rw [hE]
            clear hs hz hv hE HA H0 HS HO
            have HK2 : Hid (fromE l 0 l = if E = 0 then fromE l (k + 1) (l.drop (k + 1)) else E) := by unfold Hid; rw [HK.out, HF.out]
            clear HK HF
            by_cases hE0 : E = 0
            · subst hE0
              have hjk : ¬ j < k := fun q => hg q rfl
              have t1 : (j < k) = False := eq_false hjk
              have HK3 : Hid (fromE l 0 l = fromE l (k + 1) (l.drop (k + 1))) := HK2
              clear hg hjk HK2
              go_wp2
              go_roundw
              case rel => exact ⟨k + 1, by omega, by go_num, HK3, hbi⟩
              case measure => simp [intOf]; omega
            · have t2 : (E == 0) = false := beq_false_of_ne hE0
              have t3 : (E != 0) = true := by simpa using hE0
              have HK3 : Hid (fromE l 0 l = E) := by unfold Hid; rw [HK2.out, if_neg hE0]
              clear hg HK2 hE0
              by_cases hjk : j < k
              · go_wp2
                go_ret
                exact ⟨by rw [HE.out, HK3.out]; rfl, hbi⟩
              · have t1 : (j < k) = False := eq_false hjk
                clear hjk
                go_wp2
                go_ret
                exact ⟨by rw [HE.out, HK3.out]; rfl, hbi⟩
      · have HZ : Hid (fromE l 0 l = 0) := by unfold Hid; rw [HK.out, List.drop_of_length_le (by omega)]; rfl
        go_wp2
        go_ret
        exact ⟨by rw [HE.out, HZ.out]; rfl, hbw⟩
structure PnOwnT (t : TypeId) (base : Nat) (w : World) (x : PnV) (p : Pan) : Prop where
 nm : x.1 = p.1
 wd : x.2.1 = p.2.1
 left : Own ec 3 base t w (slV x.2.2.1) p.2.2.1
 right : Own ec 3 base t w (slV x.2.2.2) p.2.2.2
def PnsOwnT (t : TypeId) (base : Nat) (w : World) : List PnV → List Pan → Prop
 | [], [] => True
 | x :: xs, p :: ps => PnOwnT t base w x p ∧ PnsOwnT t base w xs ps
 | _, _ => False
theorem PnOwnT.to {t : TypeId} {base : Nat} {w w' : World} {x : PnV} {p : Pan} (f : ∀ v l, Own ec 3 base t w v l → Own ec 3 base t w' v l) (h : PnOwnT t base w x p) : PnOwnT t base w' x p := ⟨h.nm, h.wd, f _ _ h.left, f _ _ h.right⟩
theorem PnsOwnT.to {t : TypeId} {base : Nat} {w w' : World} (f : ∀ v l, Own ec 3 base t w v l → Own ec 3 base t w' v l) : ∀ {xs : List PnV} {l : List Pan}, PnsOwnT t base w xs l → PnsOwnT t base w' xs l
 | [], [], _ => trivial
 | _ :: _, _ :: _, h => ⟨h.1.to f, h.2.to f⟩
 | [], _ :: _, h => h.elim
 | _ :: _, [], h => h.elim
theorem PnsOwnT.snoc {t : TypeId} {base : Nat} {w : World} {x : PnV} {p : Pan} (hx : PnOwnT t base w x p) : ∀ {xs : List PnV} {l : List Pan}, PnsOwnT t base w xs l → PnsOwnT t base w (xs ++ [x]) (l ++ [p])
 | [], [], _ => ⟨hx, trivial⟩
 | _ :: _, _ :: _, h => ⟨h.1, PnsOwnT.snoc hx h.2⟩
 | [], _ :: _, h => h.elim
 | _ :: _, [], h => h.elim
theorem PnsOwnT.at_ {t : TypeId} {base : Nat} {w : World} : ∀ {xs : List PnV} {l : List Pan}, PnsOwnT t base w xs l → PnsAt w xs l
 | [], [], _ => trivial
 | _ :: _, _ :: _, h => ⟨⟨h.1.nm, h.1.wd, h.1.left.rd ec_len, h.1.right.rd ec_len⟩, h.2.at_⟩
 | [], _ :: _, h => h.elim
 | _ :: _, [], h => h.elim
theorem PnsOwnT.len {t : TypeId} {base : Nat} {w : World} {xs : List PnV} {l : List Pan} (h : PnsOwnT t base w xs l) : xs.length = l.length := h.at_.len
theorem PnsOwnT.below {t : TypeId} {base : Nat} {w w' : World} {xs : List PnV} {l : List Pan} (h : PnsOwnT t base w xs l) (hb : Below w.heap.size w w') : PnsOwnT t base w' xs l := h.to fun _ _ ho => ho.below hb
def RPS (w : World) (l : List Pan) (e : Ending) (w' : World) : Prop := ∃ v, e = .returned v ∧ SlP w' v l ∧ Below w.heap.size w w'
theorem llists_any {v : Value} (l : List Pan) (w : World) (h : SlP w v l) (hln : l.length ≤ 100000) (hwl : ∀ p ∈ l, p.2.2.1.length ≤ 100000 ∧ p.2.2.2.length ≤ 100000) :
  Calls Tryz.prog 36 #[v] w (RPS w l) := by
 obtain ⟨xs, ⟨A, c, rfl, hlc, hcm, hr⟩, hx⟩ := h
 have HLN := Lib.hid hx.len
 have hl1 : xs.length ≤ l.length := Nat.le_of_eq HLN.out
 have hl2 : l.length ≤ xs.length := Nat.le_of_eq HLN.out.symm
 have HWL := Lib.hid hwl
 clear hwl
 go_enter Tryz.func36, Tryz.ntmps36
 go_wp2
 go_loopw [3, 7] (fun s3 s7 wr => ∃ (k : Nat) (ys : List PnV), k ≤ xs.length ∧ s7 = .int .i64 k ∧ Own pnc 4 w.heap.size 30 wr s3 ys ∧ PnsOwnT 107 w.heap.size wr ys (l.take k) ∧ Below w.heap.size w wr) (fun _ i _ => xs.length - (intOf i).toNat)
 case atStart => exact ⟨0, [], Nat.zero_le _, rfl, Own.nil_, trivial, by (repeat first|exact J0|assumption|(apply J1;assumption)|apply J2|apply J3|apply J4)⟩
 case round =>
  obtain ⟨k, ys, hk, rfl, hO, hys, hbw⟩ := hrel
  obtain ⟨wo, rfl⟩ : ∃ x, x = wr := ⟨_, rfl⟩
  by_cases hlt : k < xs.length
  ·have hkl : k < l.length := by omega
   have hp := hx.get (List.getElem?_eq_getElem hlt) (List.getElem?_eq_getElem hkl)
   obtain ⟨hw1, hw2⟩ := HWL.out _ (List.getElem_mem hkl)
   have HT := Lib.hid (List.take_succ_eq_append_getElem hkl)
   obtain ⟨b, off, rfl, hb, e0, e1, e2, e3⟩ := (hr.below hbw).pan (List.getElem?_eq_getElem hlt)
   obtain ⟨p, hpe⟩ : ∃ p, l[k] = p := ⟨_, rfl⟩
   rw [hpe] at hp hw1 hw2 HT
   obtain ⟨x, hxe⟩ : ∃ x, xs[k] = x := ⟨_, rfl⟩
   rw [hxe] at hp e0 e1 e2 e3
   have cG := fun W (hb : Below w.heap.size w W) => given_any p W (hp.left.below hb) (hp.right.below hb) hw1 hw2
   unfold GIW at cG
   rw [hp.nm] at e0
   rw [hp.wd] at e1
   obtain ⟨x0, x1, ⟨a0, a1, a2⟩, ⟨b0, b1, b2⟩⟩ := x
   simp only [sV, slV] at e0 e1 e2 e3 cG
   clear hp hw1 hw2 hpe hxe
   have hyl := hys.len
   have hyl2 : ys.length = k := by rw [hyl, List.length_take]; omega
   go_wp2_with fail
   refine (cG _ hbw).mono ?_
   rintro e w2 ⟨uL, uR, rfl, oL, oR, hb2⟩
   obtain ⟨AL, cL, rfl⟩ := oL.shape
   obtain ⟨AR, cR, rfl⟩ := oR.shape
   have hz2 := hb2.size
   have hzw := hbw.size
   have hO2 := hO.below hb2
   have hys2 := hys.below hb2
   have hbw2 : Below w.heap.size w w2 := bl_then hb2 hbw
   have hOa := hO2.alloc (.cells #[.string ⟨p.1.toArray⟩, .int .i64 p.2.1, .slice AL p.2.2.1.length cL, .slice AR p.2.2.2.length cR] 30)
   have oLa := oL.alloc (.cells #[.string ⟨p.1.toArray⟩, .int .i64 p.2.1, .slice AL p.2.2.1.length cL, .slice AR p.2.2.2.length cR] 30)
   have oRa := oR.alloc (.cells #[.string ⟨p.1.toArray⟩, .int .i64 p.2.1, .slice AL p.2.2.1.length cL, .slice AR p.2.2.2.length cR] 30)
   have hba : Below w.heap.size w (w2.alloc (.cells #[.string ⟨p.1.toArray⟩, .int .i64 p.2.1, .slice AL p.2.2.1.length cL, .slice AR p.2.2.2.length cR] 30)) := bl_alloc hbw2 _
   have hysa := hys2.below (show Below w2.heap.size w2 (w2.alloc (.cells #[.string ⟨p.1.toArray⟩, .int .i64 p.2.1, .slice AL p.2.2.1.length cL, .slice AR p.2.2.2.length cR] 30)) from bl_alloc bl_refl _)
   have hua : Sl pnc 4 (w2.alloc (.cells #[.string ⟨p.1.toArray⟩, .int .i64 p.2.1, .slice AL p.2.2.1.length cL, .slice AR p.2.2.2.length cR] 30)) (.slice (some ⟨w2.heap.size, 0, none⟩) 1 1) [(p.1, p.2.1, (AL, p.2.2.1.length, cL), (AR, p.2.2.2.length, cR))] := Sl.oneG w2 _ (p.1, p.2.1, (AL, p.2.2.1.length, cL), (AR, p.2.2.2.length, cR)) _ rfl
   have hza := hba.size
   go_wp2_with (at_builtin; refine wpList_app rfl pan_elem pnc_len pnc_one _ _ rfl w.heap.size _ _ ys [(p.1, p.2.1, (AL, p.2.2.1.length, cL), (AR, p.2.2.2.length, cR))] rfl rfl hOa hua (by simp [maxLen]; omega) (by simp; omega) hza ?_; intro v9 w9 hO9 hg9)
   have hb9 : Below w.heap.size w w9 := bl_grown hg9 hba (fun j e => (hOa.lt j e).1)
   have hy9 := hysa.to (fun _ _ ho => ho.kept hg9 (Own.ne_own ho hOa (by decide)))
   have oL9 := oLa.kept hg9 (Own.ne_own oLa hOa (by decide))
   have oR9 := oRa.kept hg9 (Own.ne_own oRa hOa (by decide))
   have hy10 := PnsOwnT.snoc (x := (p.1, p.2.1, (AL, p.2.2.1.length, cL), (AR, p.2.2.2.length, cR))) ⟨rfl, rfl, oL9.base_mono (by omega), oR9.base_mono (by omega)⟩ hy9
   go_wp2
   go_roundw
   case rel => exact ⟨k + 1, _, by omega, by go_num, hO9, by rw [HT.out]; exact hy10, hb9⟩
   case measure => simp [intOf]; omega
  ·obtain rfl : k = xs.length := by omega
   rw [List.take_of_length_le (by omega)] at hys
   go_wp2
   go_ret
   exact ⟨_, rfl, ⟨ys, hO.rd pnc_len, hys.at_⟩, hbw⟩
theorem rpan_elem : Elem Tryz.prog 78 24 4 72 := ⟨by kernel_rfl, by kernel_rfl, by decide⟩
theorem lall_any {v : Value} (l : List Pan) (w : World) (h : SlP w v l) (hln : l.length ≤ 100000) (hwl : ∀ p ∈ l, p.2.2.1.length ≤ 100000 ∧ p.2.2.2.length ≤ 100000) :
  Calls Tryz.prog 42 #[v] w (RPS w l) := by
 obtain ⟨xs, ⟨A, c, rfl, hlc, hcm, hr⟩, hx⟩ := h
 have HLN := Lib.hid hx.len
 have hl1 : xs.length ≤ l.length := Nat.le_of_eq HLN.out
 have hl2 : l.length ≤ xs.length := Nat.le_of_eq HLN.out.symm
 have HWL := Lib.hid hwl
 clear hwl
 go_enter Tryz.func42, Tryz.ntmps42
 go_wp2
 go_loopw [3, 7] (fun s3 s7 wr => ∃ (k : Nat) (ys : List PnV), k ≤ xs.length ∧ s7 = .int .i64 k ∧ Own pnc 4 w.heap.size 24 wr s3 ys ∧ PnsOwnT 132 w.heap.size wr ys (l.take k) ∧ Below w.heap.size w wr) (fun _ i _ => xs.length - (intOf i).toNat)
 case atStart => exact ⟨0, [], Nat.zero_le _, rfl, Own.nil_, trivial, by (repeat first|exact J0|assumption|(apply J1;assumption)|apply J2|apply J3|apply J4)⟩
 case round =>
  obtain ⟨k, ys, hk, rfl, hO, hys, hbw⟩ := hrel
  obtain ⟨wo, rfl⟩ : ∃ x, x = wr := ⟨_, rfl⟩
  by_cases hlt : k < xs.length
  ·have hkl : k < l.length := by omega
   have hp := hx.get (List.getElem?_eq_getElem hlt) (List.getElem?_eq_getElem hkl)
   obtain ⟨hw1, hw2⟩ := HWL.out _ (List.getElem_mem hkl)
   have HT := Lib.hid (List.take_succ_eq_append_getElem hkl)
   obtain ⟨b, off, rfl, hb, e0, e1, e2, e3⟩ := (hr.below hbw).pan (List.getElem?_eq_getElem hlt)
   obtain ⟨p, hpe⟩ : ∃ p, l[k] = p := ⟨_, rfl⟩
   rw [hpe] at hp hw1 hw2 HT
   obtain ⟨x, hxe⟩ : ∃ x, xs[k] = x := ⟨_, rfl⟩
   rw [hxe] at hp e0 e1 e2 e3
   have cG := fun W (hb : Below w.heap.size w W) => rown_any p W (hp.left.below hb) (hp.right.below hb) hw1 hw2
   unfold ROW at cG
   rw [hp.nm] at e0
   rw [hp.wd] at e1
   obtain ⟨x0, x1, ⟨a0, a1, a2⟩, ⟨b0, b1, b2⟩⟩ := x
   simp only [sV, slV] at e0 e1 e2 e3 cG
   clear hp hw1 hw2 hpe hxe
   have hyl := hys.len
   have hyl2 : ys.length = k := by rw [hyl, List.length_take]; omega
   go_wp2_with fail
   refine (cG _ hbw).mono ?_
   rintro e w2 ⟨uL, uR, rfl, oL, oR, hb2⟩
   obtain ⟨AL, cL, rfl⟩ := oL.shape
   obtain ⟨AR, cR, rfl⟩ := oR.shape
   have hz2 := hb2.size
   have hzw := hbw.size
   have hO2 := hO.below hb2
   have hys2 := hys.below hb2
   have hbw2 : Below w.heap.size w w2 := bl_then hb2 hbw
   have hOa := hO2.alloc (.cells #[.string ⟨p.1.toArray⟩, .int .i64 p.2.1, .slice AL p.2.2.1.length cL, .slice AR p.2.2.2.length cR] 24)
   have oLa := oL.alloc (.cells #[.string ⟨p.1.toArray⟩, .int .i64 p.2.1, .slice AL p.2.2.1.length cL, .slice AR p.2.2.2.length cR] 24)
   have oRa := oR.alloc (.cells #[.string ⟨p.1.toArray⟩, .int .i64 p.2.1, .slice AL p.2.2.1.length cL, .slice AR p.2.2.2.length cR] 24)
   have hba : Below w.heap.size w (w2.alloc (.cells #[.string ⟨p.1.toArray⟩, .int .i64 p.2.1, .slice AL p.2.2.1.length cL, .slice AR p.2.2.2.length cR] 24)) := bl_alloc hbw2 _
   have hysa := hys2.below (show Below w2.heap.size w2 (w2.alloc (.cells #[.string ⟨p.1.toArray⟩, .int .i64 p.2.1, .slice AL p.2.2.1.length cL, .slice AR p.2.2.2.length cR] 24)) from bl_alloc bl_refl _)
   have hua : Sl pnc 4 (w2.alloc (.cells #[.string ⟨p.1.toArray⟩, .int .i64 p.2.1, .slice AL p.2.2.1.length cL, .slice AR p.2.2.2.length cR] 24)) (.slice (some ⟨w2.heap.size, 0, none⟩) 1 1) [(p.1, p.2.1, (AL, p.2.2.1.length, cL), (AR, p.2.2.2.length, cR))] := Sl.oneG w2 _ (p.1, p.2.1, (AL, p.2.2.1.length, cL), (AR, p.2.2.2.length, cR)) _ rfl
   have hza := hba.size
   go_wp2_with (at_builtin; refine wpList_app rfl rpan_elem pnc_len pnc_one _ _ rfl w.heap.size _ _ ys [(p.1, p.2.1, (AL, p.2.2.1.length, cL), (AR, p.2.2.2.length, cR))] rfl rfl hOa hua (by simp [maxLen]; omega) (by simp; omega) hza ?_; intro v9 w9 hO9 hg9)
   have hb9 : Below w.heap.size w w9 := bl_grown hg9 hba (fun j e => (hOa.lt j e).1)
   have hy9 := hysa.to (fun _ _ ho => ho.kept hg9 (Own.ne_own ho hOa (by decide)))
   have oL9 := oLa.kept hg9 (Own.ne_own oLa hOa (by decide))
   have oR9 := oRa.kept hg9 (Own.ne_own oRa hOa (by decide))
   have hy10 := PnsOwnT.snoc (x := (p.1, p.2.1, (AL, p.2.2.1.length, cL), (AR, p.2.2.2.length, cR))) ⟨rfl, rfl, oL9.base_mono (by omega), oR9.base_mono (by omega)⟩ hy9
   go_wp2
   go_roundw
   case rel => exact ⟨k + 1, _, by omega, by go_num, hO9, by rw [HT.out]; exact hy10, hb9⟩
   case measure => simp [intOf]; omega
  ·obtain rfl : k = xs.length := by omega
   rw [List.take_of_length_le (by omega)] at hys
   go_wp2
   go_ret
   exact ⟨_, rfl, ⟨ys, hO.rd pnc_len, hys.at_⟩, hbw⟩
theorem rline_out (M S W T : Str) : Value.string (((((({ data := M.toArray } : ByteArray) ++ { data := S.toArray }) ++ { data := #[32] }) ++ { data := W.toArray }) ++ { data := #[32] }) ++ { data := T.toArray } ++ { data := #[32, 111, 117, 116, 10] }) = sV (M ++ (S ++ [32] ++ W ++ [32] ++ T ++ [32] ++ wayS true ++ [10])) := by
 have e : M ++ (S ++ [32] ++ W ++ [32] ++ T ++ [32] ++ wayS true ++ [10]) = M ++ S ++ [32] ++ W ++ [32] ++ T ++ [32, 111, 117, 116, 10] := by simp [wayS]
 rw [e]
 unfold sV
 congr 1
theorem rline_in (M S W T : Str) : Value.string (((((({ data := M.toArray } : ByteArray) ++ { data := S.toArray }) ++ { data := #[32] }) ++ { data := W.toArray }) ++ { data := #[32] }) ++ { data := T.toArray } ++ { data := #[32, 105, 110, 10] }) = sV (M ++ (S ++ [32] ++ W ++ [32] ++ T ++ [32] ++ wayS false ++ [10])) := by
 have e : M ++ (S ++ [32] ++ W ++ [32] ++ T ++ [32] ++ wayS false ++ [10]) = M ++ S ++ [32] ++ W ++ [32] ++ T ++ [32, 105, 110, 10] := by simp [wayS]
 rw [e]
 unfold sV
 congr 1
theorem ba_size (s : Str) : ({ data := s.toArray } : ByteArray).size = s.length := by simp [ByteArray.size]
theorem rlines_any {v : Value} (side : Str) (l : List Edg) (w : World) (h : SlE w v l) (hs : side.length ≤ 10) (hok : ∀ e ∈ l, edgE e = 0) (hl : l.length ≤ 64) :
  Calls Tryz.prog 105 #[sV side, v] w (RV w (sV (linesS side l))) := by
 obtain ⟨A, c, rfl, hlc, hcm, hr⟩ := h
 have HOK := Lib.hid hok
 have HLL := Lib.hid (fun j => linesS_len side hs (l.take j) fun e he => hok e (List.mem_of_mem_take he))
 clear hok
 unfold sV
 go_enter Tryz.func105, Tryz.ntmps105
 go_wp2
 go_loopw [5, 6] (fun s5 s6 wr => ∃ k : Nat, k ≤ l.length ∧ s6 = .int .i64 k ∧ s5 = sV (linesS side (l.take k)) ∧ Below w.heap.size w wr) (fun _ i _ => l.length - (intOf i).toNat)
 case atStart => exact ⟨0, Nat.zero_le _, rfl, rfl, bl_refl⟩
 case round =>
  obtain ⟨k, hk, rfl, rfl, hbw⟩ := hrel
  obtain ⟨wo, rfl⟩ : ∃ x, x = wr := ⟨_, rfl⟩
  have hll := HLL.out k
  have htk := List.length_take_le' k l
  by_cases hlt : k < l.length
  ·have HS := Lib.hid (linesS_snoc (side := side) hlt)
   have hee := HOK.out _ (List.getElem_mem hlt)
   obtain ⟨_, q2, _, q4, q5⟩ := edgE_zero hee
   obtain ⟨b, off, rfl, hb, e0, e1, e2⟩ := (hr.below hbw).edge hlt
   obtain ⟨⟨s, t, o⟩, hx⟩ : ∃ z, l[k] = z := ⟨_, rfl⟩
   rw [hx] at HS q2 q4 q5 e0 e1 e2
   simp only at q2 q4 q5 e0 e1 e2
   obtain ⟨n, hn⟩ : ∃ n : Nat, t = n := ⟨t.toNat, by omega⟩
   subst hn
   have cT := fun W => rtext_any n (by omega) W
   have hTl : (Lib.decDigits n).length ≤ 21 := by rw [← Lib.itoa_nonneg]; exact Lib.itoa_length_le _ (by omega) (by omega)
   have HT : Hid (lineS side (s, (n : Int), o) = side ++ [32] ++ s ++ [32] ++ Lib.decDigits n ++ [32] ++ wayS o ++ [10]) := by unfold Hid lineS; simp only; rw [Lib.itoa_nonneg]
   obtain ⟨T, hTe⟩ : ∃ T, Lib.decDigits n = T := ⟨_, rfl⟩
   obtain ⟨M, hM⟩ : ∃ M, linesS side (l.take k) = M := ⟨_, rfl⟩
   rw [hTe] at cT hTl HT
   rw [hM] at HS hll
   rw [hM]
   have hMl : M.length ≤ 100000 := by omega
   have HR1 := Lib.hid (rline_out M side s T)
   have HR2 := Lib.hid (rline_in M side s T)
   have z1 := ba_size M
   have z2 := ba_size side
   have z3 := ba_size s
   have z4 := ba_size T
   unfold sV at cT ⊢
   obtain ⟨BM, hBM⟩ : ∃ B : ByteArray, ({ data := M.toArray } : ByteArray) = B := ⟨_, rfl⟩
   obtain ⟨BS, hBS⟩ : ∃ B : ByteArray, ({ data := side.toArray } : ByteArray) = B := ⟨_, rfl⟩
   obtain ⟨B2, hB2⟩ : ∃ B : ByteArray, ({ data := s.toArray } : ByteArray) = B := ⟨_, rfl⟩
   obtain ⟨BT, hBT⟩ : ∃ B : ByteArray, ({ data := T.toArray } : ByteArray) = B := ⟨_, rfl⟩
   rw [hBM, hBS, hB2, hBT] at HR1 HR2
   rw [hBM] at z1
   rw [hBS] at z2
   rw [hB2] at z3 e0
   rw [hBT] at z4 cT
   rw [hBM, hBS]
   have y1 : BM.size ≤ 100000 := by omega
   have y2 : BS.size ≤ 10 := by omega
   have y3 : B2.size ≤ 100 := by omega
   have y4 : BT.size ≤ 21 := by omega
   clear hee hx hM hTe hll htk z1 z2 z3 z4 hBM hB2 hBT hMl hTl
   go_upto_region 5 with fail
   refine wp_region_ords [0, 1, 2, 3, 4, 5, 6, 7, 8, 9, 10, 11, 12, 13, 14, 15] [(16, false)] [17, 18] (by kernel_rfl) (by kernel_rfl) (fun d _ _ _ _ h => by cases d <;> exact h) ?_
   simp only [List.map_cons, List.map_nil, List.getD_cons_zero, List.getD_cons_succ]
   repeat (go_big_quiet_step (fail))
   refine wpQuiet_nil ?_
   refine wpMid_run rfl (fun K hK => ?_)
   go_simp
   refine (cT _).mono ?_
   rintro e w2 ⟨rfl, hb2⟩
   refine hK _ _ (by (repeat first|exact J0|assumption|(apply J1;assumption)|apply J2|apply J3|apply J4)) ?_
   clear hK K
   refine wpMid_nil ?_
   have f2 := ((show Below wo.heap.size wo w2 by (repeat first|exact J0|assumption|(apply J1;assumption)|apply J2|apply J3|apply J4)).cell (p := ⟨b, off + k * 3 + 2, none⟩) hb).trans e2
   have hbw2 : Below w.heap.size w w2 := bl_then (show Below wo.heap.size wo w2 by (repeat first|exact J0|assumption|(apply J1;assumption)|apply J2|apply J3|apply J4)) hbw
   cases o
   ·have HF : Hid (linesS side (l.take (k + 1)) = M ++ (side ++ [32] ++ s ++ [32] ++ T ++ [32] ++ wayS false ++ [10])) := by unfold Hid; rw [HS.out, HT.out]
    go_wp2
    go_roundw
    case rel => exact ⟨k + 1, by omega, by go_num, by rw [HF.out]; exact HR2.out, hbw2⟩
    case measure => simp [intOf]; omega
   ·have HF : Hid (linesS side (l.take (k + 1)) = M ++ (side ++ [32] ++ s ++ [32] ++ T ++ [32] ++ wayS true ++ [10])) := by unfold Hid; rw [HS.out, HT.out]
    go_wp2
    go_roundw
    case rel => exact ⟨k + 1, by omega, by go_num, by rw [HF.out]; exact HR1.out, hbw2⟩
    case measure => simp [intOf]; omega
  ·obtain rfl : k = l.length := by omega
   rw [List.take_length]
   unfold sV
   go_wp2
   go_ret
   exact ⟨rfl, hbw⟩
theorem rpan_eq (P N T L R : Str) : Value.string (((((((({ data := P.toArray } : ByteArray) ++ { data := #[112, 97, 110, 101, 108, 32] }) ++ { data := N.toArray }) ++ { data := #[32] }) ++ { data := T.toArray }) ++ { data := #[10] }) ++ { data := L.toArray }) ++ { data := R.toArray } ++ { data := #[101, 110, 100, 10] }) = sV (P ++ ([112, 97, 110, 101, 108, 32] ++ N ++ [32] ++ T ++ [10] ++ L ++ R ++ endW)) := by
 have e : P ++ ([112, 97, 110, 101, 108, 32] ++ N ++ [32] ++ T ++ [10] ++ L ++ R ++ endW) = P ++ [112, 97, 110, 101, 108, 32] ++ N ++ [32] ++ T ++ [10] ++ L ++ R ++ [101, 110, 100, 10] := by simp [endW]
 rw [e]
 unfold sV
 congr 1
theorem rprint_any {v : Value} (l : List Pan) (w : World) (h : SlP w v l) (hok : ∀ p ∈ l, PanOk p) (h16 : l.length ≤ 16) : Calls Tryz.prog 39 #[v] w (RV w (sV (prnT l))) := by
 obtain ⟨xs, ⟨A, c, rfl, hlc, hcm, hr⟩, hx⟩ := h
 have HLN := Lib.hid hx.len
 have hl1 : xs.length ≤ l.length := Nat.le_of_eq HLN.out
 have hl2 : l.length ≤ xs.length := Nat.le_of_eq HLN.out.symm
 have HOK := Lib.hid hok
 have HTL : Hid (∀ k, (prnT (l.take k)).length ≤ 480000) := fun k => by
  have h1 := prnT_len (l.take k) fun p hp => hok p (List.mem_of_mem_take hp)
  have h2 := List.length_take_le' k l
  omega
 clear hok
 go_enter Tryz.func39, Tryz.ntmps39
 go_wp2
 go_loopw [3, 4] (fun s3 s4 wr => ∃ k : Nat, k ≤ xs.length ∧ s4 = .int .i64 k ∧ s3 = sV (prnT (l.take k)) ∧ Below w.heap.size w wr) (fun _ i _ => xs.length - (intOf i).toNat)
 case atStart => exact ⟨0, Nat.zero_le _, rfl, rfl, bl_refl⟩
 case round =>
  obtain ⟨k, hk, rfl, rfl, hbw⟩ := hrel
  obtain ⟨wo, rfl⟩ : ∃ x, x = wr := ⟨_, rfl⟩
  have htl := HTL.out k
  by_cases hlt : k < xs.length
  ·have hkl : k < l.length := by omega
   have hp := hx.get (List.getElem?_eq_getElem hlt) (List.getElem?_eq_getElem hkl)
   have hok := HOK.out _ (List.getElem_mem hkl)
   have HS := Lib.hid (prnT_snoc hkl)
   obtain ⟨b, off, rfl, hb, e0, e1, e2, e3⟩ := (hr.below hbw).pan (List.getElem?_eq_getElem hlt)
   obtain ⟨p, hpe⟩ : ∃ p, l[k] = p := ⟨_, rfl⟩
   rw [hpe] at hp hok HS
   obtain ⟨x, hxe⟩ : ∃ x, xs[k] = x := ⟨_, rfl⟩
   rw [hxe] at hp e0 e1 e2 e3
   have cL := fun W (hb : Below w.heap.size w W) => rlines_any leftW p.2.2.1 W (hp.left.below hb) (by simp [leftW]) hok.left.ok hok.left.few
   have cR := fun W (hb : Below w.heap.size w W) => rlines_any rightW p.2.2.2 W (hp.right.below hb) (by simp [rightW]) hok.right.ok hok.right.few
   have hlL := linesS_len leftW (by simp [leftW]) p.2.2.1 hok.left.ok
   have hlR := linesS_len rightW (by simp [rightW]) p.2.2.2 hok.right.ok
   have f1 := hok.left.few
   have f2 := hok.right.few
   have hwd := hok.wid
   have hnm : p.1.length ≤ 100 := by
    have hn := hok.name
    unfold nameR at hn
    simp only [Bool.and_eq_true, decide_eq_true_eq] at hn
    omega
   obtain ⟨n, hn⟩ : ∃ n : Nat, p.2.1 = n := ⟨p.2.1.toNat, by omega⟩
   have HP : Hid (panS p = [112, 97, 110, 101, 108, 32] ++ p.1 ++ [32] ++ Lib.decDigits n ++ [10] ++ linesS leftW p.2.2.1 ++ linesS rightW p.2.2.2 ++ endW) := by unfold Hid panS headS; rw [hn, Lib.itoa_nonneg]
   rw [hp.nm] at e0
   rw [hp.wd, hn] at e1
   rw [hn] at hwd
   have cT := fun W => rtext_any n (by omega) W
   have hTl : (Lib.decDigits n).length ≤ 21 := by rw [← Lib.itoa_nonneg]; exact Lib.itoa_length_le _ (by omega) (by omega)
   obtain ⟨NM, hNM⟩ : ∃ z, p.1 = z := ⟨_, rfl⟩
   obtain ⟨T, hTe⟩ : ∃ T, Lib.decDigits n = T := ⟨_, rfl⟩
   obtain ⟨LL, hLL⟩ : ∃ z, linesS leftW p.2.2.1 = z := ⟨_, rfl⟩
   obtain ⟨LR, hLR⟩ : ∃ z, linesS rightW p.2.2.2 = z := ⟨_, rfl⟩
   obtain ⟨P, hP⟩ : ∃ z, prnT (l.take k) = z := ⟨_, rfl⟩
   rw [hNM] at e0 HP hnm
   rw [hTe] at cT hTl HP
   rw [hLL] at cL hlL HP
   rw [hLR] at cR hlR HP
   rw [hP] at HS htl
   rw [hP]
   have HF : Hid (prnT (l.take (k + 1)) = P ++ ([112, 97, 110, 101, 108, 32] ++ NM ++ [32] ++ T ++ [10] ++ LL ++ LR ++ endW)) := by unfold Hid; rw [HS.out, HP.out]
   have HQ := Lib.hid (rpan_eq P NM T LL LR)
   have z1 := ba_size P
   have z2 := ba_size NM
   have z3 := ba_size T
   have z4 := ba_size LL
   have z5 := ba_size LR
   obtain ⟨x0, x1, ⟨a0, a1, a2⟩, ⟨b0, b1, b2⟩⟩ := x
   rw [show sV leftW = .string ⟨#[108, 101, 102, 116]⟩ from rfl] at cL
   rw [show sV rightW = .string ⟨#[114, 105, 103, 104, 116]⟩ from rfl] at cR
   simp only [sV, slV] at e0 e1 e2 e3 cL cR cT ⊢
   obtain ⟨BP, hBP⟩ : ∃ B : ByteArray, ({ data := P.toArray } : ByteArray) = B := ⟨_, rfl⟩
   obtain ⟨BN, hBN⟩ : ∃ B : ByteArray, ({ data := NM.toArray } : ByteArray) = B := ⟨_, rfl⟩
   obtain ⟨BT, hBT⟩ : ∃ B : ByteArray, ({ data := T.toArray } : ByteArray) = B := ⟨_, rfl⟩
   obtain ⟨BL, hBL⟩ : ∃ B : ByteArray, ({ data := LL.toArray } : ByteArray) = B := ⟨_, rfl⟩
   obtain ⟨BR, hBR⟩ : ∃ B : ByteArray, ({ data := LR.toArray } : ByteArray) = B := ⟨_, rfl⟩
   rw [hBP, hBN, hBT, hBL, hBR] at HQ
   rw [hBP] at z1
   rw [hBN] at z2 e0
   rw [hBT] at z3 cT
   rw [hBL] at z4 cL
   rw [hBR] at z5 cR
   rw [hBP]
   have y1 : BP.size ≤ 480000 := by omega
   have y2 : BN.size ≤ 100 := by omega
   have y3 : BT.size ≤ 21 := by omega
   have y4 : BL.size ≤ 12800 := by omega
   have y5 : BR.size ≤ 12800 := by omega
   clear hp hok hpe hxe hlL hlR f1 f2 hwd hnm hn hTl hNM hTe hLL hLR hP htl z1 z2 z3 z4 z5 hBP hBN hBT hBL hBR HS HP
   go_upto_region 5 with fail
   refine wp_region_ords [0, 1, 2, 3, 4, 5, 6, 7, 8, 9, 10, 11, 12, 13, 17, 18, 19, 20, 21, 24, 25, 26, 27, 28] [(14, false), (15, true), (16, true), (22, false), (23, true), (29, false)] [30, 31, 32] (by kernel_rfl) (by kernel_rfl) (fun d _ _ _ _ h => by cases d <;> exact h) ?_
   simp only [List.map_cons, List.map_nil, List.getD_cons_zero, List.getD_cons_succ]
   repeat (go_big_quiet_step (fail))
   refine wpQuiet_nil ?_
   refine wpMid_run rfl (fun K hK => ?_)
   go_simp
   refine (cT _).mono ?_
   rintro e w2 ⟨rfl, hb2⟩
   refine hK _ _ (by (repeat first|exact J0|assumption|(apply J1;assumption)|apply J2|apply J3|apply J4)) ?_
   clear hK K
   refine wpMid_take rfl ?_
   intro K hK
   go_big_quiet_op
   go_big_quiet_on
   refine wpMid_take rfl ?_
   intro K hK
   go_big_quiet_op
   go_big_quiet_on
   refine wpMid_run rfl (fun K hK => ?_)
   go_simp
   refine (cL _ (bl_then (by (repeat first|exact J0|assumption|(apply J1;assumption)|apply J2|apply J3|apply J4)) hbw)).mono ?_
   rintro e w3 ⟨rfl, hb3⟩
   refine hK _ _ (by (repeat first|exact J0|assumption|(apply J1;assumption)|apply J2|apply J3|apply J4)) ?_
   clear hK K
   refine wpMid_take rfl ?_
   intro K hK
   go_big_quiet_op
   go_big_quiet_on
   refine wpMid_run rfl (fun K hK => ?_)
   go_simp
   refine (cR _ (bl_then (by (repeat first|exact J0|assumption|(apply J1;assumption)|apply J2|apply J3|apply J4)) hbw)).mono ?_
   rintro e w4 ⟨rfl, hb4⟩
   refine hK _ _ (by (repeat first|exact J0|assumption|(apply J1;assumption)|apply J2|apply J3|apply J4)) ?_
   clear hK K
   refine wpMid_nil ?_
   have hbw4 : Below w.heap.size w w4 := bl_then (show Below wo.heap.size wo w4 by (repeat first|exact J0|assumption|(apply J1;assumption)|apply J2|apply J3|apply J4)) hbw
   go_wp2
   go_roundw
   case rel => exact ⟨k + 1, by omega, by go_num, by rw [HF.out]; exact HQ.out, hbw4⟩
   case measure => simp [intOf]; omega
  ·obtain rfl : k = xs.length := by omega
   rw [List.take_of_length_le (by omega)]
   unfold sV
   go_wp2
   go_ret
   exact ⟨rfl, hbw⟩
structure KptT (t : TypeId) (base : Nat) (wb W : World) : Prop where
 own : ∀ v l, Own ec 3 base t wb v l → Own ec 3 base t W v l
 size : wb.heap.size ≤ W.heap.size
theorem KptT.refl {t : TypeId} {base : Nat} {W : World} : KptT t base W W := ⟨fun _ _ h => h, Nat.le_refl _⟩
theorem KptT.then_ {t : TypeId} {base : Nat} {wb W W' : World} (h : KptT t base wb W) (hb : Below W.heap.size W W') : KptT t base wb W' := ⟨fun _ _ ho => (h.own _ _ ho).below hb, Nat.le_trans h.size hb.size⟩
theorem KptT.grown {t : TypeId} {base : Nat} {wb A B : World} {row : Option Nat} (h : KptT t base wb A) (g : A.grownBy B row) (hr : ∀ k, row = some k → wb.heap.size ≤ k) : KptT t base wb B :=
 ⟨fun v _ ho => (h.own _ _ ho).kept g (by
  cases hv : v.ownBlock with
  | none => exact .inl rfl
  | some k => exact .inr (fun e => by have h1 := (ho.lt k hv).2; have h2 := hr k e.symm; omega)), Nat.le_trans h.size g.size⟩
theorem KptT.set {t e : TypeId} {base g : Nat} {wb W : World} {cs : Array Value} (h : KptT t base wb W) (hB : Blk W g e cs) (ht : e ≠ t) (i : Nat) (u : Value) : KptT t base wb (W.setCell ⟨g, i, none⟩ u) :=
 ⟨fun _ _ ho => (h.own _ _ ho).set (p := ⟨g, i, none⟩) (Ne.symm ((h.own _ _ ho).ne_blk hB ht)) u, by simpa [World.setCell] using h.size⟩
def OpnT (t : TypeId) (nb : Nat) (W : World) (x : PnV) (p : Pan) (pl : Nat) : Prop := ∃ nr : Nat, nb ≤ nr ∧ nr ≤ W.heap.size ∧ x.1 = p.1 ∧ x.2.1 = p.2.1 ∧ Own ec 3 nb t W (slV x.2.2.1) p.2.2.1 ∧ (∀ k, (slV x.2.2.1).ownBlock = some k → k < nr) ∧ Own ec 3 nr t W (slV x.2.2.2) p.2.2.2 ∧ (pl = 1 → p.2.2.2 = [] ∧ x.2.2.2 = (none, 0, 0))
def RefAt (base : Nat) (W : World) (v : Value) (out : List Pan) (pl : Nat) : Prop := ∃ (xs : List PnV) (wb : World), Own pnc 4 base 24 W v xs ∧ KptT 132 base wb W ∧ base ≤ wb.heap.size ∧
 ((pl = 0 ∧ PnsOwnT 132 base wb xs out) ∨ (0 < pl ∧ ∃ xs0 x ps p, xs = xs0 ++ [x] ∧ out = ps ++ [p] ∧ PnsOwnT 132 base wb xs0 ps ∧ OpnT 132 wb.heap.size W x p pl))
theorem OpnT.below {t : TypeId} {nb : Nat} {W W' : World} {x : PnV} {p : Pan} {pl : Nat} (h : OpnT t nb W x p pl) (hb : Below W.heap.size W W') : OpnT t nb W' x p pl := by
 obtain ⟨nr, h1, h2, h3, h4, h5, h6, h7, h8⟩ := h
 exact ⟨nr, h1, Nat.le_trans h2 hb.size, h3, h4, h5.below hb, h6, h7.below hb, h8⟩
theorem RefAt.below {base : Nat} {W W' : World} {v : Value} {out : List Pan} {pl : Nat} (h : RefAt base W v out pl) (hb : Below W.heap.size W W') : RefAt base W' v out pl := by
 obtain ⟨xs, wb, h1, h2, h3, h4⟩ := h
 refine ⟨xs, wb, h1.below hb, h2.then_ hb, h3, ?_⟩
 rcases h4 with h4 | ⟨h4, xs0, x, ps, p, e1, e2, h5, h6⟩
 ·exact .inl h4
 ·exact .inr ⟨h4, xs0, x, ps, p, e1, e2, h5, h6.below hb⟩
theorem RefAt.all {base : Nat} {W : World} {v : Value} {out : List Pan} {pl : Nat} (h : RefAt base W v out pl) : ∃ xs, Own pnc 4 base 24 W v xs ∧ PnsOwnT 132 base W xs out := by
 obtain ⟨xs, wb, h1, h2, h3, h4⟩ := h
 refine ⟨xs, h1, ?_⟩
 rcases h4 with ⟨_, h4⟩ | ⟨h4, xs0, x, ps, p, rfl, rfl, h5, nr, n1, n2, m1, m2, oL, oLt, oR, oRn⟩
 ·exact h4.to h2.own
 ·exact PnsOwnT.snoc ⟨m1, m2, oL.base_mono h3, oR.base_mono (by omega)⟩ (h5.to h2.own)
theorem RefAt.nil_ {W : World} {base : Nat} (hb : base ≤ W.heap.size) : RefAt base W (.slice none 0 0) [] 0 := ⟨[], W, Own.nil_, KptT.refl, hb, .inl ⟨rfl, trivial⟩⟩
theorem RefAt.open_ {base : Nat} {W : World} {v : Value} {xs : List PnV} {out : List Pan} {nm : Str} {wd : Int} (hO : Own pnc 4 base 24 W v (xs ++ [(nm, wd, (none, 0, 0), (none, 0, 0))])) (hP : PnsOwnT 132 base W xs out) (hb : base ≤ W.heap.size) : RefAt base W v (out ++ [(nm, wd, [], [])]) 1 :=
 ⟨_, W, hO, KptT.refl, hb, .inr ⟨by decide, xs, _, out, _, rfl, rfl, hP, W.heap.size, Nat.le_refl _, Nat.le_refl _, rfl, rfl, Own.nil_, (fun k e => by cases e), Own.nil_, fun _ => ⟨rfl, rfl⟩⟩⟩
theorem RefAt.close {base : Nat} {W : World} {v : Value} {out : List Pan} {pl : Nat} (h : RefAt base W v out pl) (hb : base ≤ W.heap.size) : RefAt base W v out 0 := by
 obtain ⟨xs, h1, h2⟩ := h.all
 exact ⟨xs, W, h1, KptT.refl, hb, .inl ⟨rfl, h2⟩⟩
theorem own_setLast {base g n c : Nat} {e : TypeId} {W : World} {xs0 : List PnV} {x : PnV} (h : Own pnc 4 base e W (.slice (some ⟨g, 0, none⟩) n c) (xs0 ++ [x])) : ∃ cs, Blk W g e cs ∧ n = xs0.length + 1 ∧ base ≤ g ∧
  ∀ (j : Nat) (u : Value) (x' : PnV), j < 4 → pnc x' = (pnc x).set j u → cs[xs0.length * 4 + j]? = (pnc x)[j]? ∧ Own pnc 4 base e (W.setCell ⟨g, xs0.length * 4 + j, none⟩ u) (.slice (some ⟨g, 0, none⟩) n c) (xs0 ++ [x']) := by
 obtain ⟨hl, hgw, tail, hB, hback⟩ := own_rowT pnc_len h
 have hm : (xs0 ++ [x])[xs0.length]? = some x := by simp
 refine ⟨_, hB, by rw [← hl]; simp, hgw, fun j u x' hj he => ⟨rowT_get pnc_len tail hm hj, ?_⟩⟩
 have hs := hB.set_ (xs0.length * 4 + j) u
 rw [rowT_set pnc_len tail x' hm hj he, List.set_append_right _ _ (Nat.le_refl _), Nat.sub_self] at hs
 exact hback _ _ (by simp) hs
theorem RefAt.left_ {base g n c nb : Nat} {W W1 W2 wb : World} {vl : SlV} {xs0 : List PnV} {x : PnV} {ps : List Pan} {p : Pan} {e : Edg} {cs : Array Value}
  (hxs : PnsOwnT 132 base wb xs0 ps) (hK : KptT 132 base wb W) (hnb : wb.heap.size = nb) (hb : base ≤ nb) (ho : OpnT 132 nb W x p 1) (h1 : Below W.heap.size W W1) (hg : W1.grownBy W2 (slV x.2.2.1).ownBlock) (hL : Own ec 3 nb 132 W2 (slV vl) (p.2.2.1 ++ [e]))
  (hB : Blk W2 g 24 cs) (hset : Own pnc 4 base 24 (W2.setCell ⟨g, xs0.length * 4 + 2, none⟩ (slV vl)) (.slice (some ⟨g, 0, none⟩) n c) (xs0 ++ [(x.1, x.2.1, vl, x.2.2.2)])) :
  RefAt base (W2.setCell ⟨g, xs0.length * 4 + 2, none⟩ (slV vl)) (.slice (some ⟨g, 0, none⟩) n c) (ps ++ [(p.1, p.2.1, p.2.2.1 ++ [e], p.2.2.2)]) 1 := by
 subst hnb
 obtain ⟨nr, n1, n2, m1, m2, oL, oLt, oR, oRn⟩ := ho
 obtain ⟨e1, e2⟩ := oRn rfl
 have k2 : KptT 132 base wb W2 := (hK.then_ h1).grown hg (fun k hk => (oL.lt k hk).1)
 have k3 := k2.set hB (by decide) (xs0.length * 4 + 2) (slV vl)
 have hL3 := hL.set (p := ⟨g, xs0.length * 4 + 2, none⟩) (Ne.symm (hL.ne_blk hB (by decide))) (slV vl)
 refine ⟨_, wb, hset, k3, hb, .inr ⟨by decide, xs0, _, ps, _, rfl, rfl, hxs, (W2.setCell ⟨g, xs0.length * 4 + 2, none⟩ (slV vl)).heap.size, ?_, Nat.le_refl _, m1, m2, hL3, (fun k hk => (hL3.lt k hk).2), ?_, fun _ => ⟨e1, e2⟩⟩⟩
 ·exact k3.size
 ·rw [e1, e2]
  exact Own.nil_
theorem RefAt.right_ {base g n c nb nr : Nat} {W W1 W2 wb : World} {vr : SlV} {xs0 : List PnV} {x : PnV} {ps : List Pan} {p : Pan} {e : Edg} {cs : Array Value}
  (hxs : PnsOwnT 132 base wb xs0 ps) (hK : KptT 132 base wb W) (hnb : wb.heap.size = nb) (hb : base ≤ nb)
  (n1 : nb ≤ nr) (m1 : x.1 = p.1) (m2 : x.2.1 = p.2.1) (oL : Own ec 3 nb 132 W (slV x.2.2.1) p.2.2.1) (oLt : ∀ k, (slV x.2.2.1).ownBlock = some k → k < nr) (oR : Own ec 3 nr 132 W (slV x.2.2.2) p.2.2.2)
  (h1 : Below W.heap.size W W1) (hg : W1.grownBy W2 (slV x.2.2.2).ownBlock) (hR : Own ec 3 nr 132 W2 (slV vr) (p.2.2.2 ++ [e])) (hnr : nr ≤ W2.heap.size)
  (hB : Blk W2 g 24 cs) (hset : Own pnc 4 base 24 (W2.setCell ⟨g, xs0.length * 4 + 3, none⟩ (slV vr)) (.slice (some ⟨g, 0, none⟩) n c) (xs0 ++ [(x.1, x.2.1, x.2.2.1, vr)])) :
  RefAt base (W2.setCell ⟨g, xs0.length * 4 + 3, none⟩ (slV vr)) (.slice (some ⟨g, 0, none⟩) n c) (ps ++ [(p.1, p.2.1, p.2.2.1, p.2.2.2 ++ [e])]) 2 := by
 subst hnb
 have k2 : KptT 132 base wb W2 := (hK.then_ h1).grown hg (fun k hk => by have := (oR.lt k hk).1; omega)
 have k3 := k2.set hB (by decide) (xs0.length * 4 + 3) (slV vr)
 have oL2 := (oL.below h1).kept hg (by
  cases hv : (slV x.2.2.1).ownBlock with
  | none => exact .inl rfl
  | some k => exact .inr (fun q => by have h2 := oLt k hv; have h3 := (oR.lt k q.symm).1; omega))
 have hL3 := oL2.set (p := ⟨g, xs0.length * 4 + 3, none⟩) (Ne.symm (oL2.ne_blk hB (by decide))) (slV vr)
 have hR3 := hR.set (p := ⟨g, xs0.length * 4 + 3, none⟩) (Ne.symm (hR.ne_blk hB (by decide))) (slV vr)
 exact ⟨_, wb, hset, k3, hb, .inr ⟨by decide, xs0, _, ps, _, rfl, rfl, hxs, nr, n1, by simpa [World.setCell] using hnr, m1, m2, hL3, oLt, hR3, fun q => by cases q⟩⟩
def SmL (k : Nat) (out : List Pan) : Prop := out.length ≤ 16 ∧ ∀ p ∈ out, p.1.length ≤ 20000 ∧ p.2.2.1.length ≤ k ∧ p.2.2.2.length ≤ k ∧ (∀ e ∈ p.2.2.1, e.1.length ≤ 20000) ∧ ∀ e ∈ p.2.2.2, e.1.length ≤ 20000
theorem SmL.nil_ : SmL 0 [] := ⟨by simp, by simp⟩
theorem SmL.mono {k k' : Nat} {out : List Pan} (h : SmL k out) (hk : k ≤ k') : SmL k' out := ⟨h.1, fun p hp => by
 obtain ⟨a, b, c, d, e⟩ := h.2 p hp
 exact ⟨a, by omega, by omega, d, e⟩⟩
theorem SmL.open_ {k : Nat} {out : List Pan} {nm : Str} {wd : Int} (h : SmL k out) (hn : nm.length ≤ 20000) (hl : out.length ≠ 16) : SmL (k + 1) (out ++ [(nm, wd, [], [])]) := by
 refine ⟨by have := h.1; simp; omega, fun p hp => ?_⟩
 rcases List.mem_append.1 hp with hp | hp
 ·exact (h.mono (Nat.le_succ k)).2 p hp
 ·simp only [List.mem_singleton] at hp
  subst hp
  simp [hn]
theorem SmL.last {k : Nat} {ps : List Pan} {p p' : Pan} (h : SmL k (ps ++ [p])) (h1 : p'.1.length ≤ 20000) (h2 : p'.2.2.1.length ≤ k + 1) (h3 : p'.2.2.2.length ≤ k + 1) (h4 : ∀ e ∈ p'.2.2.1, e.1.length ≤ 20000) (h5 : ∀ e ∈ p'.2.2.2, e.1.length ≤ 20000) : SmL (k + 1) (ps ++ [p']) := by
 refine ⟨by have := h.1; simpa using this, fun q hq => ?_⟩
 rcases List.mem_append.1 hq with hq | hq
 ·exact (h.mono (Nat.le_succ k)).2 q (List.mem_append.2 (.inl hq))
 ·simp only [List.mem_singleton] at hq
  subst hq
  exact ⟨h1, h2, h3, h4, h5⟩
theorem SmL.left_ {k : Nat} {ps : List Pan} {p : Pan} {e : Edg} (h : SmL k (ps ++ [p])) (he : e.1.length ≤ 20000) : SmL (k + 1) (ps ++ [(p.1, p.2.1, p.2.2.1 ++ [e], p.2.2.2)]) := by
 obtain ⟨a, b, c, d, f⟩ := h.2 p (by simp)
 refine h.last a (by simp; omega) (by simp only; omega) (fun x hx => ?_) f
 rcases List.mem_append.1 hx with hx | hx
 ·exact d x hx
 ·simp only [List.mem_singleton] at hx
  subst hx
  exact he
theorem SmL.right_ {k : Nat} {ps : List Pan} {p : Pan} {e : Edg} (h : SmL k (ps ++ [p])) (he : e.1.length ≤ 20000) : SmL (k + 1) (ps ++ [(p.1, p.2.1, p.2.2.1, p.2.2.2 ++ [e])]) := by
 obtain ⟨a, b, c, d, f⟩ := h.2 p (by simp)
 refine h.last a (by simp only; omega) (by simp; omega) d (fun x hx => ?_)
 rcases List.mem_append.1 hx with hx | hx
 ·exact f x hx
 ·simp only [List.mem_singleton] at hx
  subst hx
  exact he
theorem splA_in (c : UInt8) : ∀ (s : Str), (splA c s).length ≤ s.length + 1 ∧ ∀ x ∈ splA c s, x.length ≤ s.length
 | [] => by simp [splA]
 | b :: r => by
  obtain ⟨h1, h2⟩ := splA_in c r
  rw [splA]
  split
  ·refine ⟨by simp; omega, fun x hx => ?_⟩
   rcases List.mem_cons.1 hx with rfl | hx
   ·simp
   ·have := h2 x hx; simp; omega
  ·split
   ·refine ⟨by simp, fun x hx => ?_⟩
    simp only [List.mem_singleton] at hx
    subst hx
    simp
   ·rename_i w ws hw
    rw [hw] at h1 h2
    refine ⟨by simp at h1 ⊢; omega, fun x hx => ?_⟩
    rcases List.mem_cons.1 hx with rfl | hx
    ·have := h2 w (List.mem_cons_self ..)
     simp; omega
    ·have := h2 x (List.mem_cons_of_mem _ hx)
     simp; omega
end Go.Proofs.YtkkefahobjlagaaGreatDoor

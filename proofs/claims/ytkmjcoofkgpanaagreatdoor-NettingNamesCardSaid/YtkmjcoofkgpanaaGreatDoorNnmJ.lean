/- Names: program and reference, walked. Conditions: short strings. -/
import Derived.Test.YtkmjcoofkgpanaaGreatDoorB21
import Derived.Test.YtkmjcoofkgpanaaGreatDoorB17
import Derived.Laws.RangeAny
import Derived.Laws.RangeString
import Derived.Deep.CutRange
namespace Go.Proofs.YtkmjcoofkgpanaaGreatDoor
open Go.RowKit Go.ChangeMaps
set_option maxHeartbeats 4000000
set_option maxRecDepth 100000

/-- a letter; a byte that may stand at a place of a name -/
def letC (n : Nat) : Bool := decide (97 ≤ n ∧ n ≤ 122) || decide (65 ≤ n ∧ n ≤ 90)
def okC (i n : Nat) : Bool := letC n || (decide (i ≠ 0) && (decide (n = 95) || decide (48 ≤ n ∧ n ≤ 57)))
def nmF : Nat → Str → Bool
  | _, [] => true
  | i, c :: r => okC i c.toNat && nmF (i + 1) r
def nameR (s : Str) : Bool := decide (s.length ≠ 0) && (decide (s.length ≤ 24) && nmF 0 s)
theorem nmF_drop {s : Str} {i k : Nat} (h : k < s.length) : nmF i (s.drop k) = (okC i s[k].toNat && nmF (i + 1) (s.drop (k + 1))) := by
  rw [List.drop_eq_getElem_cons h]; rfl
theorem rname_any (s : Str) (hs : s.length ≤ 60) (w : World) : Calls Tryz.prog 77 #[sV s] w (RV w (.bool (nameR s))) := by
  by_cases h0 : s.length = 0
  · have HS : Hid (nameR s = false) := by unfold Hid nameR; rw [decide_eq_false (by omega)]; rfl
    have e : s = [] := List.eq_nil_of_length_eq_zero h0
    subst e
    unfold sV
    clear h0 hs
    go_enter Tryz.func77, Tryz.ntmps77
    go_wp2
    go_ret
    exact ⟨by rw [HS.out]; rfl, by (repeat (first | exact bl_refl | assumption | (apply bl_then; assumption) | refine bl_alloc ?_ _ | refine bl_drew ?_ | refine bl_drewN ?_ _))⟩
  by_cases h24 : 24 < s.length
  · have HS : Hid (nameR s = false) := by unfold Hid nameR; rw [decide_eq_false (show ¬ s.length ≤ 24 by omega)]; simp
    have t1 : ((s.length : Int) == 0) = false := beq_false_of_ne (by omega)
    have t2 : (24 < (s.length : Int)) = True := eq_true (by omega)
    unfold sV
    clear h0 h24
    go_enter Tryz.func77, Tryz.ntmps77
    go_wp2
    go_ret
    exact ⟨by rw [HS.out]; rfl, by (repeat (first | exact bl_refl | assumption | (apply bl_then; assumption) | refine bl_alloc ?_ _ | refine bl_drew ?_ | refine bl_drewN ?_ _))⟩
  have HS : Hid (nameR s = nmF 0 s) := by unfold Hid nameR; rw [decide_eq_true h0, decide_eq_true (show s.length ≤ 24 by omega)]; simp
  have t1 : ((s.length : Int) == 0) = false := beq_false_of_ne (by omega)
  have t2 : (24 < (s.length : Int)) = False := eq_false (by omega)
  unfold sV
  clear h0 h24
  go_enter Tryz.func77, Tryz.ntmps77
  go_wp2
  go_loopw [3] (fun i wr => ∃ k : Nat, k ≤ s.length ∧ i = .int .i64 k ∧ Hid (nmF 0 s = nmF k (s.drop k)) ∧ Below w.heap.size w wr) (fun i _ => s.length - (intOf i).toNat)
  case atStart => exact ⟨0, Nat.zero_le _, rfl, by simp [Hid], by (repeat (first | exact bl_refl | assumption | (apply bl_then; assumption) | refine bl_alloc ?_ _ | refine bl_drew ?_ | refine bl_drewN ?_ _))⟩
  case round =>
    obtain ⟨k, hk, rfl, H, hbw⟩ := hrel
    obtain ⟨wo, rfl⟩ : ∃ x, x = wr := ⟨_, rfl⟩
    by_cases hlt : k < s.length
    · have HD := Lib.hid (nmF_drop (i := k) hlt)
      obtain ⟨n, hn⟩ : ∃ n : Nat, s[k].toNat = n := ⟨_, rfl⟩
      have hn2 : (({ data := s.toArray } : ByteArray)[k]'hlt).toNat = n := hn
      have hnb : n < 256 := by rw [← hn]; exact UInt8.toNat_lt _
      rw [hn] at HD
      clear hn
      go_upto_region 7 with fail
      clear hn2
      go_cut [5] from 23 to 37 (fun s5 wx => s5 = .bool (letC n) ∧ Below wo.heap.size wo wx)
      case first =>
        go_wp2_with fail
        all_goals
          go_meet
          case rel => exact ⟨by congr 1; unfold letC; rw [Bool.eq_iff_iff]; simp; omega, by (repeat (first | exact bl_refl | assumption | (apply bl_then; assumption) | refine bl_alloc ?_ _ | refine bl_drew ?_ | refine bl_drewN ?_ _))⟩
      case rest =>
        obtain ⟨rfl, hbc⟩ := hcut
        obtain ⟨wp, rfl⟩ : ∃ x, x = wc := ⟨_, rfl⟩
        have hbw2 := bl_then hbc hbw
        clear hbc
        obtain ⟨lt, hl⟩ : ∃ b, letC n = b := ⟨_, rfl⟩
        have HL := Lib.hid hl
        rw [hl]
        clear hl
        go_upto_region 8 with fail
        go_cut [54] from 37 to 54 (fun s54 wx => s54 = .bool (!okC k n) ∧ Below wp.heap.size wp wx)
        case first =>
          cases lt
          all_goals
            rcases hk0 : ((k : Int) == 0) with _ | _
            all_goals
              rcases h95 : ((n : Int) != 95) with _ | _
              all_goals
                have HK0 := Lib.hid hk0
                have H95 := Lib.hid h95
                go_wp2_with fail
                all_goals
                  go_meet
                  case rel =>
                    have e1 := HK0.out
                    have e2 := H95.out
                    simp at e1 e2
                    exact ⟨by congr 1; unfold okC; rw [HL.out]; rw [Bool.eq_iff_iff]; simp; try omega, by (repeat (first | exact bl_refl | assumption | (apply bl_then; assumption) | refine bl_alloc ?_ _ | refine bl_drew ?_ | refine bl_drewN ?_ _))⟩
        case rest =>
          obtain ⟨rfl, hbc⟩ := hcut
          have hbw3 := bl_then hbc hbw2
          obtain ⟨ok, ho⟩ : ∃ b, okC k n = b := ⟨_, rfl⟩
          rw [ho] at HD ⊢
          clear ho HL
          cases ok
          · have HF : Hid (nmF 0 s = false) := by unfold Hid; rw [H.out, HD.out]; rfl
            go_wp2
            go_ret
            exact ⟨by rw [HS.out, HF.out]; rfl, hbw3⟩
          · have HT : Hid (nmF 0 s = nmF (k + 1) (s.drop (k + 1))) := by unfold Hid; rw [H.out, HD.out]; rfl
            go_wp2
            go_roundw
            case rel => exact ⟨k + 1, by omega, by go_num, HT, hbw3⟩
            case measure => simp [intOf]; omega
    · have HE : Hid (nmF 0 s = true) := by unfold Hid; rw [H.out, List.drop_of_length_le (by omega)]; rfl
      go_wp2
      go_ret
      exact ⟨by rw [HS.out, HE.out]; rfl, hbw⟩
theorem nname_any (s : Str) (hs : s.length ≤ 60) (w : World) : Calls Tryz.prog 76 #[sV s] w (RV w (.bool (nameR s))) := by
  by_cases h0 : s.length = 0
  · have HS : Hid (nameR s = false) := by unfold Hid nameR; rw [decide_eq_false (by omega)]; rfl
    have e : s = [] := List.eq_nil_of_length_eq_zero h0
    subst e
    unfold sV
    clear h0 hs
    go_enter Tryz.func76, Tryz.ntmps76
    go_wp2
    go_ret
    exact ⟨by rw [HS.out]; rfl, by (repeat (first | exact bl_refl | assumption | (apply bl_then; assumption) | refine bl_alloc ?_ _ | refine bl_drew ?_ | refine bl_drewN ?_ _))⟩
  by_cases h24 : 24 < s.length
  · have HS : Hid (nameR s = false) := by unfold Hid nameR; rw [decide_eq_false (show ¬ s.length ≤ 24 by omega)]; simp
    have t1 : ((s.length : Int) == 0) = false := beq_false_of_ne (by omega)
    have t2 : (24 < (s.length : Int)) = True := eq_true (by omega)
    unfold sV
    clear h0 h24
    go_enter Tryz.func76, Tryz.ntmps76
    go_wp2
    go_ret
    exact ⟨by rw [HS.out]; rfl, by (repeat (first | exact bl_refl | assumption | (apply bl_then; assumption) | refine bl_alloc ?_ _ | refine bl_drew ?_ | refine bl_drewN ?_ _))⟩
  have HS : Hid (nameR s = nmF 0 s) := by unfold Hid nameR; rw [decide_eq_true h0, decide_eq_true (show s.length ≤ 24 by omega)]; simp
  have t1 : ((s.length : Int) == 0) = false := beq_false_of_ne (by omega)
  have t2 : (24 < (s.length : Int)) = False := eq_false (by omega)
  obtain ⟨B, hB⟩ : ∃ B : ByteArray, ({ data := s.toArray } : ByteArray) = B := ⟨_, rfl⟩
  have hsz : B.size = s.length := by rw [← hB]; rfl
  have hget : ∀ k (h : k < s.length), (B[k]'(by rw [hsz]; exact h)) = s[k] := fun k h => by subst hB; rfl
  have HZ := Lib.hid hsz
  have HGt := Lib.hid hget
  unfold sV
  rw [hB]
  clear h0 h24 hB hget
  go_enter Tryz.func76, Tryz.ntmps76
  go_wp2
  go_loopw [3] (fun _ wr => ∃ k : Nat, k ≤ s.length ∧ wr = w.iter B k ∧ Hid (nmF 0 s = nmF k (s.drop k))) (fun _ wr => s.length - wr.iterPos w.heap.size)
  case atStart => exact ⟨0, Nat.zero_le _, rfl, by simp [Hid]⟩
  case round =>
    obtain ⟨k, hk, rfl, H⟩ := hrel
    have hbw : Below w.heap.size w (w.iter B k) := bl_alloc bl_refl _
    by_cases hlt : k < s.length
    · have hp : k < B.size := by have := HZ.out; omega
      have HD := Lib.hid (nmF_drop (i := k) hlt)
      have hnx : ∀ ty, (Instr.next (.pointer (some ⟨w.heap.size, 0, none⟩)) true ty).run Tryz.prog (w.iter B k) = _ := fun ty => run_next_any w B k ty hp
      obtain ⟨n, hn⟩ : ∃ n : Nat, (Utf8.decode B k).1 = n := ⟨_, rfl⟩
      obtain ⟨d, hd⟩ : ∃ n : Nat, (Utf8.decode B k).2 = n := ⟨_, rfl⟩
      have hg : (B[k]'hp) = s[k] := HGt.out k hlt
      have key : Hid (okC k s[k].toNat = okC k n ∧ (okC k n = true → d = 1)) := by
        by_cases ha : (B[k]'hp).toNat < 128
        · have := decode_ascii B k hp ha
          rw [this] at hn hd
          refine ⟨by rw [← hn, hg], fun _ => hd.symm⟩
        · have hh := (decode_high B k hp (by omega)).1
          rw [hn] at hh
          have f1 : ∀ m, 128 ≤ m → okC k m = false := fun m hm => by
            unfold okC letC
            rw [show decide (97 ≤ m ∧ m ≤ 122) = false from decide_eq_false (by omega), show decide (65 ≤ m ∧ m ≤ 90) = false from decide_eq_false (by omega), show decide (m = 95) = false from decide_eq_false (by omega), show decide (48 ≤ m ∧ m ≤ 57) = false from decide_eq_false (by omega)]
            simp
          rw [hg] at ha
          rw [f1 _ (by omega), f1 n hh]
          exact ⟨rfl, fun q => by cases q⟩
      rw [hn, hd] at hnx
      have HD2 : Hid (nmF k (s.drop k) = (okC k n && nmF (k + 1) (s.drop (k + 1)))) := by unfold Hid; rw [HD.out, key.out.1]
      have HK : Hid (okC k n = true → d = 1) := key.out.2
      clear HD key hn hd hg
      go_upto_region 6 with fail
      go_cut [5] from 20 to 34 (fun s5 wx => s5 = .bool (letC n) ∧ wx = w.iter B (k + d))
      case first =>
        go_wp2_with fail
        all_goals
          go_meet
          case rel => exact ⟨by congr 1; unfold letC; rw [Bool.eq_iff_iff]; simp; omega, rfl⟩
      case rest =>
        obtain ⟨rfl, hw⟩ := hcut
        subst hw
        obtain ⟨lt, hl⟩ : ∃ b, letC n = b := ⟨_, rfl⟩
        have HL := Lib.hid hl
        rw [hl]
        clear hl
        go_upto_region 7 with fail
        go_cut [51] from 34 to 51 (fun s51 wx => s51 = .bool (!okC k n) ∧ wx = w.iter B (k + d))
        case first =>
          cases lt
          all_goals
            rcases hk0 : ((k : Int) == 0) with _ | _
            all_goals
              rcases h95 : ((n : Int) != 95) with _ | _
              all_goals
                have HK0 := Lib.hid hk0
                have H95 := Lib.hid h95
                go_wp2_with fail
                all_goals
                  go_meet
                  case rel =>
                    have e1 := HK0.out
                    have e2 := H95.out
                    simp at e1 e2
                    exact ⟨by congr 1; unfold okC; rw [HL.out]; rw [Bool.eq_iff_iff]; simp; try omega, rfl⟩
        case rest =>
          obtain ⟨rfl, hw⟩ := hcut
          subst hw
          have hbw3 : Below w.heap.size w (w.iter B (k + d)) := bl_alloc bl_refl _
          obtain ⟨ok, ho⟩ : ∃ b, okC k n = b := ⟨_, rfl⟩
          rw [ho] at HD2 HK ⊢
          clear ho HL
          cases ok
          · have HF : Hid (nmF 0 s = false) := by unfold Hid; rw [H.out, HD2.out]; rfl
            go_wp2
            go_ret
            exact ⟨by rw [HS.out, HF.out]; rfl, hbw3⟩
          · have HT : Hid (nmF 0 s = nmF (k + 1) (s.drop (k + 1))) := by unfold Hid; rw [H.out, HD2.out]; rfl
            obtain rfl : d = 1 := HK.out rfl
            go_wp2
            go_roundw
            case rel => exact ⟨k + 1, by omega, rfl, HT⟩
            case measure => simp; omega
    · have hnx : ∀ ty, (Instr.next (.pointer (some ⟨w.heap.size, 0, none⟩)) true ty).run Tryz.prog (w.iter B k) = _ := fun ty => run_next_end w B k ty (by have := HZ.out; omega)
      have HE : Hid (nmF 0 s = true) := by unfold Hid; rw [H.out, List.drop_of_length_le (by omega)]; rfl
      go_wp2
      go_ret
      exact ⟨by rw [HS.out, HE.out]; rfl, hbw⟩
end Go.Proofs.YtkmjcoofkgpanaaGreatDoor
